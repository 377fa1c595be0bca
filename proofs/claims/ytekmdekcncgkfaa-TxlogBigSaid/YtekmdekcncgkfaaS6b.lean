/- Plain: a log that is filled by cells that follow one another. -/
import Derived.Test.YtekmdekcncgkfaaS6
namespace Go.Proofs.Ytekmdekcncgkfaa
open Go.RowKit
structure Filled (st : TS) (n : Nat) (f : Int) (k : Nat) : Prop where
  inv : Inv st
  most : st.most = n
  cells : cellsT st = (List.range k).map fun (i : Nat) => f + (i : Int)
theorem Filled.len {st : TS} {n : Nat} {f : Int} {k : Nat} (h : Filled st n f k) : st.rows.length = k := by
  have := congrArg List.length h.cells
  simpa [cellsT] using this
theorem Filled.at {st : TS} {n : Nat} {f : Int} {k : Nat} (h : Filled st n f k) {j : Nat} (hj : j < k) : cellAt st.rows j = f + j := by
  have e := congrArg (fun l => l[j]?) h.cells
  have hl := h.len
  simp only [cellsT, List.getElem?_map, List.getElem?_range hj, Option.map_some] at e
  rw [List.getElem?_eq_getElem (by omega)] at e
  unfold cellAt
  rw [List.getD_eq_getElem?_getD, List.getElem?_eq_getElem (by omega)]
  simpa using e
theorem Filled.has {st : TS} {n : Nat} {f : Int} {k : Nat} (h : Filled st n f k) (c : Int) : getB st c = true ↔ f ≤ c ∧ c < f + k := by
  rw [getB_mem]
  constructor
  · rintro ⟨j, hj, e⟩
    rw [h.len] at hj
    rw [h.at hj] at e
    omega
  · rintro ⟨h1, h2⟩
    refine ⟨(c - f).toNat, by rw [h.len]; omega, ?_⟩
    rw [h.at (by omega)]
    omega
theorem Filled.put {st : TS} {n : Nat} {f : Int} {k : Nat} (h : Filled st n f k) (hk : k < n) (hf : 0 ≤ f ∧ f ≤ 900) (hn : n ≤ 24) (v : Int) : putE st (f + k) = 0 ∧ Filled (putT st (f + k) v) n f (k + 1) := by
  have hE : putE st (f + k) = 0 := (putE_iff st _).2 ⟨by omega, .inr (by rw [h.len, h.most]; exact hk)⟩
  refine ⟨hE, putT_inv h.inv _ _, (putT_most _ _ _).trans h.most, ?_⟩
  unfold cellsT
  rw [put_cells _ v (by omega) hE, if_neg (fun e => by have := (h.has _).1 e; omega), List.range_succ, List.map_append]
  have := h.cells
  unfold cellsT at this
  rw [this]; rfl
theorem Filled.more {st : TS} {n : Nat} {f : Int} (h : Filled st n f n) {c : Int} (hc : 0 ≤ c ∧ c < 1024) (hn : ¬ (f ≤ c ∧ c < f + n)) : putE st c = 2 := by
  have hB : getB st c = false := by
    cases hb : getB st c with
    | false => rfl
    | true => exact absurd ((h.has c).1 hb) hn
  unfold putE
  rw [if_neg (by omega)]
  unfold getB at hB
  cases hr : rowOf st.rows c with
  | some i => rw [hr] at hB; simp at hB
  | none =>
    simp only
    rw [if_neg (by rw [h.len, h.most]; omega)]
theorem Filled.first {st : TS} {n : Nat} {f : Int} (h : Filled st n f n) (h1 : 1 ≤ n) (hf : 0 ≤ f ∧ f ≤ 900) (v : Int) : putE st f = 0 ∧ Filled (putT st f v) n f n ∧ getV (putT st f v) f = v := by
  have hB : getB st f = true := (h.has f).2 (by omega)
  have hE : putE st f = 0 := (putE_iff st _).2 ⟨by omega, .inl hB⟩
  refine ⟨hE, ⟨putT_inv h.inv _ _, (putT_most _ _ _).trans h.most, ?_⟩, ?_⟩
  · unfold cellsT
    rw [put_cells _ v (by omega) hE, if_pos hB]
    exact h.cells
  · rw [(rowOf_put f v f (by omega) hE).2, if_pos rfl]
theorem filled_new (n : Nat) (h1 : 1 ≤ n) (h2 : n ≤ 24) (f : Int) : Filled (newT n) n f 0 := ⟨newT_inv n h1 h2, rfl, rfl⟩
end Go.Proofs.Ytekmdekcncgkfaa
