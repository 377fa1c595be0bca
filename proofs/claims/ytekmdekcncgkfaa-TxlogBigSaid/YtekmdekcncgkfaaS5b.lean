/- Plain: what a table's slots show. -/
import Derived.Test.YtekmdekcncgkfaaS5
namespace Go.Proofs.Ytekmdekcncgkfaa
open Go.RowKit
def slotC (st : TS) (k : Nat) : Int := if slotAt st.sl k = -1 then -1 else cellAt st.rows (slotAt st.sl k).toNat
theorem slotsC_get {st : TS} {k : Nat} (h : k < st.sl.length) : slotAt (slotsC st) k = slotC st k := by
  unfold slotAt slotsC slotC
  rw [List.getD_eq_getElem?_getD, List.getElem?_map, List.getElem?_eq_getElem h]
  show (if st.sl[k] = -1 then (-1 : Int) else cellAt st.rows st.sl[k].toNat) = _
  unfold slotAt
  rw [List.getD_eq_getElem?_getD, List.getElem?_eq_getElem h]; rfl
theorem slotC_nonneg {st : TS} (hI : Inv st) {k : Nat} (hk : k < numT st.most) : 0 ≤ slotC st k ↔ slotAt st.sl k ≠ -1 := by
  unfold slotC
  split
  · rename_i h
    simp [h]
  · rename_i h
    have hr := (hI.rng k hk).resolve_left h
    have := hI.cells (slotAt st.sl k).toNat (by omega)
    simp [h]; omega
def fullN (l : List Int) (k : Nat) : Nat := ((List.range k).filter fun j => decide (slotAt l j ≠ -1)).length
theorem fullN_succ (l : List Int) (k : Nat) : fullN l (k + 1) = fullN l k + if slotAt l k = -1 then 0 else 1 := by
  unfold fullN
  rw [List.range_succ, List.filter_append, List.length_append]
  congr 1
  by_cases h : slotAt l k = -1 <;> simp [h]
theorem fullN_le (l : List Int) (k : Nat) : fullN l k ≤ k := by
  unfold fullN
  have := List.length_filter_le (fun j => decide (slotAt l j ≠ -1)) (List.range k)
  simpa using this
theorem fullN_count (l : List Int) : ∀ k, k ≤ l.length → fullN l k + (l.take k).count (-1) = k
  | 0, _ => by simp [fullN]
  | k + 1, h => by
    have ih := fullN_count l k (by omega)
    rw [fullN_succ, List.take_succ_eq_append_getElem (by omega), List.count_append]
    have e : slotAt l k = l[k] := by
      unfold slotAt
      rw [List.getD_eq_getElem?_getD, List.getElem?_eq_getElem (by omega)]; rfl
    rw [e]
    by_cases h1 : l[k] = -1
    · simp [h1]; omega
    · simp [h1]; omega
theorem Inv.fullN {st : TS} (hI : Inv st) : fullN st.sl (numT st.most) = st.rows.length := by
  have h := fullN_count st.sl (numT st.most) (by rw [hI.len]; exact Nat.le_refl _)
  rw [List.take_of_length_le (by rw [hI.len]; exact Nat.le_refl _)] at h
  have := hI.cnt
  omega
/-- A row's way: a slot that shows its cell, and none ahead of it that has nothing. -/
theorem Inv.wayC {st : TS} (hI : Inv st) {i : Nat} (hi : i < st.rows.length) : ∃ d, d < numT st.most ∧ slotC st ((hashT st.most (cellAt st.rows i) + d) % numT st.most) = cellAt st.rows i ∧ ∀ e, e < d → 0 ≤ slotC st ((hashT st.most (cellAt st.rows i) + e) % numT st.most) := by
  obtain ⟨d, h1, h2, h3⟩ := hI.way i hi
  have hn := numT_pos st.most
  refine ⟨d, h1, ?_, fun e he => (slotC_nonneg hI (Nat.mod_lt _ (by omega))).2 (h3 e he)⟩
  unfold slotC
  rw [h2, if_neg (by omega), Int.toNat_natCast]
/-! ### what was put is got -/
theorem rowOf_put {st : TS} (c v d : Int) (hc : 0 ≤ c ∧ c < 1024) (hok : putE st c = 0) : getB (putT st c v) d = (getB st d || decide (d = c)) ∧ getV (putT st c v) d = if d = c then v else getV st d := by
  have hn : ¬ (c < 0 ∨ 1024 ≤ c) := by omega
  unfold putE at hok
  rw [if_neg hn] at hok
  unfold putT
  rw [if_neg hn]
  cases hr : rowOf st.rows c with
  | some i =>
    obtain ⟨g1, g2, g3⟩ := rowOf_some hr
    have key : ∀ x, rowOf (setV st.rows i v) x = rowOf st.rows x := by
      intro x
      unfold rowOf
      rw [setV_length]
      congr 1
      funext j
      rw [cellAt_setV _ _ _ _ g1]
    have hv : ∀ j, valAt (setV st.rows i v) j = if j = i then v else valAt st.rows j := by
      intro j
      unfold valAt setV
      simp only [List.getD_eq_getElem?_getD, List.getElem?_set]
      by_cases h : i = j
      · subst h; simp [g1]
      · rw [if_neg h, if_neg (fun e => h e.symm)]
    unfold getB getV
    simp only [key]
    by_cases hd : d = c
    · subst hd
      rw [hr]
      simp [hv]
    · rw [if_neg hd]
      cases hrd : rowOf st.rows d with
      | none => simp [hd]
      | some j =>
        obtain ⟨k1, k2, k3⟩ := rowOf_some hrd
        have hji : j ≠ i := by
          intro e
          rw [e, g2] at k2
          exact hd k2.symm
        simp [hv, hji]
  | none =>
    rw [hr] at hok
    by_cases hl : st.rows.length < st.most
    · simp only [if_pos hl]
      have hcell := fun j => cellAt_app st.rows c v j
      have hval : ∀ j, valAt (st.rows ++ [(c, v)]) j = if j < st.rows.length then valAt st.rows j else if j = st.rows.length then v else 0 := by
        intro j
        unfold valAt
        simp only [List.getD_eq_getElem?_getD]
        by_cases h : j < st.rows.length
        · rw [if_pos h, List.getElem?_append_left h]
        · rw [if_neg h, List.getElem?_append_right (by omega)]
          by_cases h2 : j = st.rows.length
          · subst h2; simp
          · rw [if_neg h2, List.getElem?_eq_none (by simp; omega)]; rfl
      by_cases hd : d = c
      · subst hd
        have e : rowOf (st.rows ++ [(d, v)]) d = some st.rows.length := rowOf_of (by simp) (by rw [hcell, if_neg (by omega), if_pos rfl]) (fun j hj => by rw [hcell, if_pos hj]; exact rowOf_none hr j hj)
        unfold getB getV
        simp [e, hval]
      · cases hrd : rowOf st.rows d with
        | none =>
          have e : rowOf (st.rows ++ [(c, v)]) d = none := rowOf_isNone fun j hj => by
            rw [hcell]
            split
            · exact rowOf_none hrd j (by assumption)
            · split
              · exact fun e => hd e.symm
              · simp at hj; omega
          unfold getB getV
          simp [e, hrd, hd]
        | some j =>
          obtain ⟨k1, k2, k3⟩ := rowOf_some hrd
          have e : rowOf (st.rows ++ [(c, v)]) d = some j := rowOf_of (by simp; omega) (by rw [hcell, if_pos k1]; exact k2) (fun i hi => by rw [hcell, if_pos (by omega)]; exact k3 i hi)
          unfold getB getV
          simp [e, hrd, hd, hval, k1]
    · simp [hl] at hok
theorem put_cells {st : TS} (c v : Int) (hc : 0 ≤ c ∧ c < 1024) (hok : putE st c = 0) : (putT st c v).rows.map (·.1) = if getB st c then st.rows.map (·.1) else st.rows.map (·.1) ++ [c] := by
  have hn : ¬ (c < 0 ∨ 1024 ≤ c) := by omega
  unfold putE at hok
  rw [if_neg hn] at hok
  unfold putT getB
  rw [if_neg hn]
  cases hr : rowOf st.rows c with
  | some i =>
    obtain ⟨g1, g2, g3⟩ := rowOf_some hr
    simp only [Option.isSome_some, if_true]
    unfold setV
    rw [List.map_set]
    apply List.ext_getElem?
    intro j
    rw [List.getElem?_set]
    by_cases h : i = j
    · subst h
      simp [g1, cellAt, List.getD]
    · rw [if_neg h]
  | none =>
    rw [hr] at hok
    by_cases hl : st.rows.length < st.most
    · simp [hl]
    · simp [hl] at hok
theorem put_refused {st : TS} (c v : Int) (hok : putE st c ≠ 0) : putT st c v = st := by
  unfold putE at hok
  unfold putT
  by_cases hn : c < 0 ∨ 1024 ≤ c
  · rw [if_pos hn]
  · rw [if_neg hn] at hok ⊢
    cases hr : rowOf st.rows c with
    | some i => simp [hr] at hok
    | none =>
      simp only [hr] at hok
      by_cases hl : st.rows.length < st.most
      · simp [hl] at hok
      · simp [hl]
theorem putE_iff (st : TS) (c : Int) : putE st c = 0 ↔ (0 ≤ c ∧ c < 1024) ∧ (getB st c = true ∨ st.rows.length < st.most) := by
  unfold putE getB
  by_cases hn : c < 0 ∨ 1024 ≤ c
  · rw [if_pos hn]
    constructor
    · intro h; omega
    · rintro ⟨h, _⟩; omega
  · rw [if_neg hn]
    cases hr : rowOf st.rows c with
    | some i => simp; omega
    | none =>
      by_cases hl : st.rows.length < st.most
      · simp [hl]; omega
      · simp [hl]
theorem getB_mem {st : TS} {c : Int} : getB st c = true ↔ ∃ j, j < st.rows.length ∧ cellAt st.rows j = c := by
  unfold getB
  cases hr : rowOf st.rows c with
  | some i =>
    obtain ⟨g1, g2, _⟩ := rowOf_some hr
    simp
    exact ⟨i, g1, g2⟩
  | none =>
    have := rowOf_none hr
    simp
    intro j hj
    exact this j hj
end Go.Proofs.Ytekmdekcncgkfaa
