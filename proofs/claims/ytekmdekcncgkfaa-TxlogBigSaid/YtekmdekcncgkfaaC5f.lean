/- Layer 5: contracts of the reference's Slots, SameInts. -/
import Derived.Test.YtekmdekcncgkfaaC5e
namespace Go.Proofs.Ytekmdekcncgkfaa
open Go.RowKit
set_option linter.unusedVariables false
theorem slotsC_take {st : TS} {k : Nat} (h : k < st.sl.length) : (slotsC st).take (k + 1) = (slotsC st).take k ++ [if slotAt st.sl k = -1 then -1 else cellAt st.rows (slotAt st.sl k).toNat] := by
  have e : (slotsC st)[k]? = some (if slotAt st.sl k = -1 then -1 else cellAt st.rows (slotAt st.sl k).toNat) := by
    unfold slotsC slotAt
    rw [List.getElem?_map, List.getD_eq_getElem?_getD, List.getElem?_eq_getElem h]; rfl
  rw [List.take_add_one, e]; rfl
theorem slotsC_length (st : TS) : (slotsC st).length = st.sl.length := by simp [slotsC]
end Go.Proofs.Ytekmdekcncgkfaa
