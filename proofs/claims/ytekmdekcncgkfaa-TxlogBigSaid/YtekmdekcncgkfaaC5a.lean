/- Layer 5: how the two tables lie in memory; contracts of the reference's small functions. -/
import Derived.Test.YtekmdekcncgkfaaM1
import Derived.Test.YtekmdekcncgkfaaS5
import Derived.Test.YtekmdekcncgkfaaC5n
import Derived.Deep.QuietTactic
import Derived.BigQuiet
import Derived.RegionTactic
import Derived.ChangeAlike
import Derived.Maps.AppendAt
namespace Go.Proofs.Ytekmdekcncgkfaa
open Go.RowKit
set_option linter.unusedVariables false
def Lists (w : World) (p : Nat) (lv sv : Value) (st : TS) : Prop :=
  w.ownsRow 0 3 1 sv (numT st.most) (st.sl.map (Value.int .i64)) ∧ w.ownsRow 0 50 2 lv st.rows.length (rowCells st.rows) ∧ sv.ownBlock ≠ some p ∧ lv.ownBlock ≠ some p ∧ ∀ b, sv.ownBlock = some b → lv.ownBlock ≠ some b
def TabAt (w : World) (p : Nat) (lv sv : Value) (st : TS) : Prop :=
  w.heap[p]? = some (.cells #[.int .i64 st.most, sv, lv, .int .u64 ((64 - widT st.most : Nat) : Int)] 71) ∧ Lists w p lv sv st
def RefAt (w : World) (p : Nat) (lv sv : Value) (st : TS) : Prop :=
  w.heap[p]? = some (.cells #[.int .i64 st.most, lv, sv] 75) ∧ Lists w p lv sv st
def Foot (p : Nat) (lv sv : Value) (b : Nat) : Prop := b = p ∨ lv.ownBlock = some b ∨ sv.ownBlock = some b
/-- The program's table at p; its blocks are those of F. -/
def TabObj (w : World) (p : Nat) (st : TS) (F : Nat → Prop) : Prop := ∃ lv sv, TabAt w p lv sv st ∧ ∀ b, F b ↔ Foot p lv sv b
/-- The reference's. -/
def RefObj (w : World) (p : Nat) (st : TS) (F : Nat → Prop) : Prop := ∃ lv sv, RefAt w p lv sv st ∧ ∀ b, F b ↔ Foot p lv sv b
theorem Lists.chg {S : Nat → Prop} {w w' : World} {p : Nat} {lv sv : Value} {st : TS} (h : Lists w p lv sv st) (hc : Chg S w w') (hS : ∀ b, Foot p lv sv b → ¬ S b) : Lists w' p lv sv st :=
  ⟨own_chg h.1 hc fun b hb => hS b (.inr (.inr hb)), own_chg h.2.1 hc fun b hb => hS b (.inr (.inl hb)), h.2.2⟩
theorem TabAt.chg {S : Nat → Prop} {w w' : World} {p : Nat} {lv sv : Value} {st : TS} (h : TabAt w p lv sv st) (hc : Chg S w w') (hS : ∀ b, Foot p lv sv b → ¬ S b) : TabAt w' p lv sv st :=
  ⟨(hc.block p (heap_lt h.1) (hS p (.inl rfl))).trans h.1, h.2.chg hc hS⟩
theorem RefAt.chg {S : Nat → Prop} {w w' : World} {p : Nat} {lv sv : Value} {st : TS} (h : RefAt w p lv sv st) (hc : Chg S w w') (hS : ∀ b, Foot p lv sv b → ¬ S b) : RefAt w' p lv sv st :=
  ⟨(hc.block p (heap_lt h.1) (hS p (.inl rfl))).trans h.1, h.2.chg hc hS⟩
theorem TabAt.calm {w w' : World} {p : Nat} {lv sv : Value} {st : TS} (h : TabAt w p lv sv st) (hb : Below w.heap.size w w') : TabAt w' p lv sv st := h.chg (S := fun _ => False) (Chg.calm _ hb) fun _ _ h => h
theorem RefAt.calm {w w' : World} {p : Nat} {lv sv : Value} {st : TS} (h : RefAt w p lv sv st) (hb : Below w.heap.size w w') : RefAt w' p lv sv st := h.chg (S := fun _ => False) (Chg.calm _ hb) fun _ _ h => h
theorem TabObj.chg {S F : Nat → Prop} {w w' : World} {p : Nat} {st : TS} (h : TabObj w p st F) (hc : Chg S w w') (hS : ∀ b, F b → ¬ S b) : TabObj w' p st F := by
  obtain ⟨lv, sv, h, hF⟩ := h
  exact ⟨lv, sv, h.chg hc (fun b hb => hS b ((hF b).2 hb)), hF⟩
theorem RefObj.chg {S F : Nat → Prop} {w w' : World} {p : Nat} {st : TS} (h : RefObj w p st F) (hc : Chg S w w') (hS : ∀ b, F b → ¬ S b) : RefObj w' p st F := by
  obtain ⟨lv, sv, h, hF⟩ := h
  exact ⟨lv, sv, h.chg hc (fun b hb => hS b ((hF b).2 hb)), hF⟩
theorem TabObj.calm {F : Nat → Prop} {w w' : World} {p : Nat} {st : TS} (h : TabObj w p st F) (hb : Below w.heap.size w w') : TabObj w' p st F := h.chg (S := fun _ => False) (Chg.calm _ hb) fun _ _ h => h
theorem RefObj.calm {F : Nat → Prop} {w w' : World} {p : Nat} {st : TS} (h : RefObj w p st F) (hb : Below w.heap.size w w') : RefObj w' p st F := h.chg (S := fun _ => False) (Chg.calm _ hb) fun _ _ h => h
theorem own_lt {w : World} {B e size n : Nat} {v : Value} {xs : List Value} (h : w.ownsRow B e size v n xs) {b : Nat} (hb : v.ownBlock = some b) : b < w.heap.size := (h.lt b hb).2
theorem TabObj.lt {F : Nat → Prop} {w : World} {p : Nat} {st : TS} (h : TabObj w p st F) {b : Nat} (hb : F b) : b < w.heap.size := by
  obtain ⟨lv, sv, h, hF⟩ := h
  rcases (hF b).1 hb with rfl | e | e
  · exact heap_lt h.1
  · exact own_lt h.2.2.1 e
  · exact own_lt h.2.1 e
theorem RefObj.lt {F : Nat → Prop} {w : World} {p : Nat} {st : TS} (h : RefObj w p st F) {b : Nat} (hb : F b) : b < w.heap.size := by
  obtain ⟨lv, sv, h, hF⟩ := h
  rcases (hF b).1 hb with rfl | e | e
  · exact heap_lt h.1
  · exact own_lt h.2.2.1 e
  · exact own_lt h.2.1 e
theorem row_get {rows : List (Int × Int)} {i : Nat} (h : i < rows.length) : rows[i]? = some (cellAt rows i, valAt rows i) := by
  unfold cellAt valAt
  rw [List.getD_eq_getElem?_getD, List.getElem?_eq_getElem h]; rfl
/-- What the walk reads of a table's rows. -/
theorem rows_cells {w : World} {lv : Value} {rows : List (Int × Int)} (h : w.ownsRow 0 50 2 lv rows.length (rowCells rows)) (i : Nat) (hi : i < rows.length) :
    ∃ g c, lv = .slice (some ⟨g, 0, none⟩) rows.length c ∧ w.cell? ⟨g, i * 2, none⟩ = some (.int .i64 (cellAt rows i)) ∧ w.cell? ⟨g, i * 2 + 1, none⟩ = some (.int .i64 (valAt rows i)) ∧ (∀ o, w.frozen? ⟨g, o, none⟩ = false) := by
  obtain ⟨g, c, hv, _, _, hc, hf, _⟩ := own_parts h (by omega)
  obtain ⟨h1, h2⟩ := rowCells_get rows i _ (row_get hi)
  exact ⟨g, c, hv, (hc _ (by omega)).trans h1, (hc _ (by omega)).trans h2, hf⟩
theorem slots_cells {w : World} {sv : Value} {sl : List Int} {n : Nat} (h : w.ownsRow 0 3 1 sv n (sl.map (Value.int .i64))) (k : Nat) (hk : k < n) :
    ∃ g c, sv = .slice (some ⟨g, 0, none⟩) n c ∧ w.cell? ⟨g, k, none⟩ = some (.int .i64 (slotAt sl k)) ∧ (∀ o, w.frozen? ⟨g, o, none⟩ = false) := by
  obtain ⟨g, c, hv, _, _, hc, hf, _⟩ := own_parts h (by omega)
  refine ⟨g, c, hv, (hc k (by omega)).trans ?_, hf⟩
  have hl : sl.length = n := by have := h.1; simpa using this
  unfold slotAt
  rw [List.getElem?_map, List.getElem?_eq_getElem (by omega), List.getD_eq_getElem?_getD, List.getElem?_eq_getElem (by omega)]; rfl
theorem right_any (c : Int) (w : World) : Calls Try.prog 40 #[.int .i64 c] w fun e w' => e = .returned (.bool (decide (0 ≤ c ∧ c < 1024))) ∧ w = w' := by
  by_cases h0 : 0 ≤ c
  · by_cases h1 : c < 1024
    · go_enter Try.func40, Try.ntmps40
      go_wp2
      go_ret
      exact ⟨by congr 2; simp [h0, h1], rfl⟩
    · go_enter Try.func40, Try.ntmps40
      go_wp2
      go_ret
      exact ⟨by congr 2; simp; omega, rfl⟩
  · go_enter Try.func40, Try.ntmps40
    go_wp2
    go_ret
    exact ⟨by congr 2; simp; omega, rfl⟩
theorem pow_wid (m j : Nat) (h1 : 1 ≤ m) (h2 : m ≤ 24) (hj : j ≤ widT m) : (2 ^ j < 2 * m ↔ j < widT m) := by
  have hr := widT_range m
  have : j = 0 ∨ j = 1 ∨ j = 2 ∨ j = 3 ∨ j = 4 ∨ j = 5 ∨ j = 6 := by omega
  unfold widT at *
  rcases this with rfl | rfl | rfl | rfl | rfl | rfl | rfl <;> (repeat' split at *) <;> simp <;> omega
set_option maxHeartbeats 400000 in
theorem refSize_any (m : Nat) (h1 : 1 ≤ m) (h2 : m ≤ 24) (w : World) : Calls Try.prog 46 #[.int .i64 m] w fun e w' => e = .returned (.tuple #[.int .i64 (numT m), .int .i64 ((64 - widT m : Nat) : Int)]) ∧ w = w' := by
  have hr := widT_range m
  go_enter Try.func46, Try.ntmps46
  go_wp2_with fail
  go_loop [4, 5] (fun a b => ∃ (j p : Nat), j ≤ widT m ∧ Hid (p = 2 ^ j) ∧ 1 ≤ p ∧ p ≤ 96 ∧ a = .int .i64 p ∧ b = .int .i64 ((64 : Int) - j)) (fun _ b => (intOf b).toNat)
  case atStart => exact ⟨0, 1, by omega, rfl, by omega, by omega, rfl, rfl⟩
  case round =>
    obtain ⟨j, p, hj, HP, hp1, hp2, rfl, rfl⟩ := hrel
    have hw := pow_wid m j h1 h2 hj
    rw [← HP.out] at hw
    by_cases hlt : p < 2 * m
    · have hj2 := hw.1 hlt
      have hz : (p : Int) < 2 * m := by omega
      clear hw
      go_wp2
      go_round
      case rel =>
        refine ⟨j + 1, 2 * p, by omega, ?_, by omega, by omega, by go_num, by go_num⟩
        show _ = _
        rw [Nat.pow_succ, ← HP.out]; omega
      case measure => simp [intOf]; omega
    · have hj2 : j = widT m := by
        have := mt hw.2 hlt
        omega
      have HJ := Lib.hid hj2
      have hz : ¬ (p : Int) < 2 * m := by omega
      clear hw hj2
      go_wp2
      go_ret2
      refine ⟨?_, rfl⟩
      have e1 : p = numT m := by rw [HP.out, HJ.out]; rfl
      have e2 : (64 : Int) - j = ((64 - widT m : Nat) : Int) := by rw [← HJ.out]; omega
      simp [e1, e2]
end Go.Proofs.Ytekmdekcncgkfaa
