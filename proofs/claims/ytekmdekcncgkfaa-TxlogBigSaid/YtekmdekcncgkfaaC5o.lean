/- Layer 5: contracts said of the tables as objects. -/
import Derived.Test.YtekmdekcncgkfaaC5l
namespace Go.Proofs.Ytekmdekcncgkfaa
open Go.RowKit
set_option linter.unusedVariables false
theorem clear_obj (st : TS) (p : Nat) (F : Nat → Prop) (w : World) (h : TabObj w p st F) :
    Calls Try.prog 23 #[.pointer (some ⟨p, 0, none⟩)] w fun e w' => e = .returned (.tuple #[]) ∧ ∃ F', TabObj w' p (newT st.most) F' ∧ Chg F w w' ∧ ∀ b, F' b → F b ∨ w.heap.size ≤ b := by
  obtain ⟨lv, sv, hR, hF⟩ := h
  refine (clear_any st.most p lv st.sl sv w hR.1 (let ⟨a, c, e⟩ := ownAt_form hR.2.2.1; ⟨a, _, c, e⟩) hR.2.1 hR.2.2.2.1).mono ?_
  rintro e w' ⟨he, F', hT, hC, hf⟩
  refine ⟨he, F', hT, hC.mono ?_, fun b hb => .inl ?_⟩
  · rintro b (rfl | e)
    · exact (hF _).2 (.inl rfl)
    · exact (hF _).2 (.inr (.inr e))
  · rcases hf b hb with rfl | e
    · exact (hF _).2 (.inl rfl)
    · exact (hF _).2 (.inr (.inr e))
theorem refClear_obj (st : TS) (hI : Inv st) (p : Nat) (F : Nat → Prop) (w : World) (h : RefObj w p st F) :
    Calls Try.prog 37 #[.pointer (some ⟨p, 0, none⟩)] w fun e w' => e = .returned (.tuple #[]) ∧ ∃ F', RefObj w' p (newT st.most) F' ∧ Chg F w w' ∧ ∀ b, F' b → F b ∨ w.heap.size ≤ b := by
  obtain ⟨lv, sv, hR, hF⟩ := h
  refine (refClear_any st.most hI.m1 hI.m2 p lv sv w hR.1 (let ⟨a, c, e⟩ := ownAt_form hR.2.2.1; ⟨a, _, c, e⟩) (let ⟨a, c, e⟩ := ownAt_form hR.2.1; ⟨a, _, c, e⟩)).mono ?_
  rintro e w' ⟨he, F', hT, hC, hf⟩
  refine ⟨he, F', hT, hC.mono ?_, fun b hb => ?_⟩
  · rintro b rfl
    exact (hF _).2 (.inl rfl)
  · exact (hf b hb).imp (fun e => by subst e; exact (hF _).2 (.inl rfl)) id
theorem tabGet_obj (st : TS) (hI : Inv st) (p : Nat) (F : Nat → Prop) (w : World) (h : TabObj w p st F) (c : Int) :
    Calls Try.prog 21 #[.pointer (some ⟨p, 0, none⟩), .int .i64 c] w fun e w' => e = .returned (.tuple #[.int .i64 (getV st c), .bool (getB st c)]) ∧ Below w.heap.size w w' :=
  let ⟨lv, sv, hR, _⟩ := h; tabGet_any st hI p lv sv w hR c
theorem refGet_obj (st : TS) (p : Nat) (F : Nat → Prop) (w : World) (h : RefObj w p st F) (c : Int) :
    Calls Try.prog 39 #[.pointer (some ⟨p, 0, none⟩), .int .i64 c] w fun e w' => e = .returned (.tuple #[.int .i64 (getV st c), .bool (getB st c)]) ∧ w = w' :=
  let ⟨lv, sv, hR, _⟩ := h; refGet_any st p lv sv w hR c
theorem tabList_obj (st : TS) (hI : Inv st) (p : Nat) (F : Nat → Prop) (w : World) (h : TabObj w p st F) : Calls Try.prog 22 #[.pointer (some ⟨p, 0, none⟩)] w (RowsOut w st.rows) :=
  let ⟨lv, sv, hR, _⟩ := h; tabList_any st p lv sv w hR (Nat.le_trans hI.full hI.m2)
theorem refList_obj (st : TS) (hI : Inv st) (p : Nat) (F : Nat → Prop) (w : World) (h : RefObj w p st F) : Calls Try.prog 42 #[.pointer (some ⟨p, 0, none⟩)] w (RowsOut w st.rows) :=
  let ⟨lv, sv, hR, _⟩ := h; refList_any st p lv sv w hR (Nat.le_trans hI.full hI.m2)
theorem own_zero {w : World} {B e sz n : Nat} {v : Value} {xs : List Value} (h : w.ownsRow B e sz v n xs) : w.ownsRow 0 e sz v n xs := own_base h (fun _ _ => Nat.zero_le _)
end Go.Proofs.Ytekmdekcncgkfaa
