/- Plain: a memory as the list of its accesses. -/
import Derived.Test.YtojkeahffabifaaProg
import Derived.WalkKit
import Derived.Lib.Hide
namespace Go.Proofs.Ytojkeahffabifaa
open Go.RowKit
/-- An access. -/
structure Acc where
  th : Int
  kd : Int
  ak : Int
  ai : Int
  aj : Int
  old : Int
  val : Int
  yes : Bool
def accCell (x : Acc) : List Value := [.int .i64 x.th, .int .i64 x.kd, .int .i64 x.ak, .int .i64 x.ai, .int .i64 x.aj, .int .i64 x.old, .int .i64 x.val, .bool x.yes]
def accCells (l : List Acc) : List Value := l.flatMap accCell
def ldAcc (th k i j v : Int) : Acc := ⟨th, 1, k, i, j, 0, v, false⟩
def stAcc (th k i j v : Int) : Acc := ⟨th, 2, k, i, j, 0, v, false⟩
/-- Does the access make the word at k i j? -/
def hit (x : Acc) (k i j : Int) : Bool := (x.ak == k && x.ai == i && x.aj == j) && (x.kd == 2 || (x.kd == 3 && x.yes))
def wInit (k : Int) : Int := if k = 2 then 1 else 0
/-- What stands at k i j behind the accesses. -/
def wordOf (l : List Acc) (k i j : Int) : Int := l.foldl (fun v x => if hit x k i j then x.val else v) (wInit k)
theorem wordOf_nil (k i j : Int) : wordOf [] k i j = wInit k := rfl
theorem wordOf_snoc (l : List Acc) (x : Acc) (k i j : Int) : wordOf (l ++ [x]) k i j = if hit x k i j then x.val else wordOf l k i j := by simp [wordOf, List.foldl_append]
/-- A word turned into another. -/
def upd (wd : Int → Int → Int → Int) (k i j v : Int) : Int → Int → Int → Int := fun a b c => if a = k ∧ b = i ∧ c = j then v else wd a b c
theorem wordOf_ld (l : List Acc) (th k i j v : Int) : wordOf (l ++ [ldAcc th k i j v]) = wordOf l := by
  funext a b c
  rw [wordOf_snoc]
  simp [hit, ldAcc]
theorem wordOf_st (l : List Acc) (th k i j v : Int) : wordOf (l ++ [stAcc th k i j v]) = upd (wordOf l) k i j v := by
  funext a b c
  rw [wordOf_snoc]
  unfold upd hit stAcc
  by_cases h : a = k ∧ b = i ∧ c = j
  · obtain ⟨rfl, rfl, rfl⟩ := h; simp
  · rw [if_neg h, if_neg]
    simp only [Bool.and_eq_true, beq_iff_eq]
    rintro ⟨⟨⟨h1, h2⟩, h3⟩, _⟩
    exact h ⟨h1.symm, h2.symm, h3.symm⟩
/-- Is it an address? -/
def isA (ring cells : Nat) (k i j : Int) : Prop := (k = 1 ∧ i = 0 ∧ j = 0) ∨ (k = 2 ∧ (0 ≤ i ∧ i < ring) ∧ j = 0) ∨ (k = 3 ∧ (0 ≤ i ∧ i < ring) ∧ 0 ≤ j ∧ j < 8) ∨ (k = 4 ∧ (0 ≤ i ∧ i < cells) ∧ j = 0)
instance (ring cells : Nat) (k i j : Int) : Decidable (isA ring cells k i j) := by unfold isA; infer_instance
def headsV (wd : Int → Int → Int → Int) (n : Nat) : List Value := (List.range n).map fun (i : Nat) => Value.int .i64 (wd 2 i 0)
def sigsV (wd : Int → Int → Int → Int) (n : Nat) : List Value := (List.range (n * 8)).map fun (i : Nat) => Value.int .i64 (wd 3 ((i / 8 : Nat) : Int) ((i % 8 : Nat) : Int))
def cellsV (wd : Int → Int → Int → Int) (n : Nat) : List Value := (List.range n).map fun (i : Nat) => Value.int .i64 (wd 4 i 0)
theorem range_map_set {α : Type} (f g : Nat → α) (n i : Nat) (v : α) (h : ∀ m, m < n → g m = if m = i then v else f m) : (List.range n).map g = ((List.range n).map f).set i v := by
  apply List.ext_getElem?
  intro m
  rw [List.getElem?_set, List.getElem?_map, List.getElem?_map, List.length_map, List.length_range]
  by_cases hm : m < n
  · rw [List.getElem?_range hm, Option.map_some, Option.map_some, h m hm]
    by_cases e : i = m
    · subst e; simp [hm]
    · rw [if_neg e, if_neg (fun e' => e e'.symm)]
  · rw [List.getElem?_eq_none (by simp; omega)]
    by_cases e : i = m
    · subst e; simp [hm]
    · simp [e]
theorem range_map_same {α : Type} (f g : Nat → α) (n : Nat) (h : ∀ m, m < n → g m = f m) : (List.range n).map g = (List.range n).map f := by
  apply List.map_congr_left
  intro m hm
  exact h m (List.mem_range.1 hm)
theorem headsV_set (wd : Int → Int → Int → Int) (n i : Nat) (v : Int) : headsV (upd wd 2 i 0 v) n = (headsV wd n).set i (.int .i64 v) := by
  unfold headsV
  refine range_map_set _ _ n i _ fun m hm => ?_
  unfold upd
  by_cases e : m = i
  · subst e; simp
  · rw [if_neg e, if_neg (fun h => e (by omega))]
theorem headsV_other (wd : Int → Int → Int → Int) (n : Nat) (k i j v : Int) (hk : k ≠ 2) : headsV (upd wd k i j v) n = headsV wd n := by
  unfold headsV
  refine range_map_same _ _ n fun m hm => ?_
  unfold upd
  rw [if_neg (fun h => hk h.1.symm)]
theorem cellsV_set (wd : Int → Int → Int → Int) (n i : Nat) (v : Int) : cellsV (upd wd 4 i 0 v) n = (cellsV wd n).set i (.int .i64 v) := by
  unfold cellsV
  refine range_map_set _ _ n i _ fun m hm => ?_
  unfold upd
  by_cases e : m = i
  · subst e; simp
  · rw [if_neg e, if_neg (fun h => e (by omega))]
theorem cellsV_other (wd : Int → Int → Int → Int) (n : Nat) (k i j v : Int) (hk : k ≠ 4) : cellsV (upd wd k i j v) n = cellsV wd n := by
  unfold cellsV
  refine range_map_same _ _ n fun m hm => ?_
  unfold upd
  rw [if_neg (fun h => hk h.1.symm)]
theorem sigsV_set (wd : Int → Int → Int → Int) (n i j : Nat) (hj : j < 8) (v : Int) : sigsV (upd wd 3 i j v) n = (sigsV wd n).set (i * 8 + j) (.int .i64 v) := by
  unfold sigsV
  refine range_map_set _ _ (n * 8) (i * 8 + j) _ fun m hm => ?_
  unfold upd
  by_cases e : m = i * 8 + j
  · subst e
    rw [if_pos rfl, if_pos ⟨rfl, by omega, by omega⟩]
  · rw [if_neg e, if_neg (fun h => e (by omega))]
theorem sigsV_other (wd : Int → Int → Int → Int) (n : Nat) (k i j v : Int) (hk : k ≠ 3) : sigsV (upd wd k i j v) n = sigsV wd n := by
  unfold sigsV
  refine range_map_same _ _ _ fun m hm => ?_
  unfold upd
  rw [if_neg (fun h => hk h.1.symm)]
theorem headsV_get (wd : Int → Int → Int → Int) {n i : Nat} (h : i < n) : (headsV wd n)[i]? = some (.int .i64 (wd 2 i 0)) := by
  unfold headsV; rw [List.getElem?_map, List.getElem?_range h]; rfl
theorem cellsV_get (wd : Int → Int → Int → Int) {n i : Nat} (h : i < n) : (cellsV wd n)[i]? = some (.int .i64 (wd 4 i 0)) := by
  unfold cellsV; rw [List.getElem?_map, List.getElem?_range h]; rfl
theorem sigsV_get (wd : Int → Int → Int → Int) {n i j : Nat} (h : i < n) (hj : j < 8) : (sigsV wd n)[i * 8 + j]? = some (.int .i64 (wd 3 i j)) := by
  unfold sigsV
  rw [List.getElem?_map, List.getElem?_range (by omega), Option.map_some, show (i * 8 + j) / 8 = i by omega, show (i * 8 + j) % 8 = j by omega]
theorem headsV_len (wd : Int → Int → Int → Int) (n : Nat) : (headsV wd n).length = n := by simp [headsV]
theorem cellsV_len (wd : Int → Int → Int → Int) (n : Nat) : (cellsV wd n).length = n := by simp [cellsV]
theorem sigsV_len (wd : Int → Int → Int → Int) (n : Nat) : (sigsV wd n).length = n * 8 := by simp [sigsV]
theorem accCells_len (l : List Acc) : (accCells l).length = l.length * 8 := by
  induction l with
  | nil => rfl
  | cons a r ih => simp only [accCells, List.flatMap_cons, List.length_append, List.length_cons] at ih ⊢; rw [ih]; simp [accCell]; omega
theorem accCells_snoc (l : List Acc) (x : Acc) : accCells (l ++ [x]) = accCells l ++ accCell x := by simp [accCells]
theorem accCells_get (l : List Acc) : ∀ (k : Nat) (x : Acc), l[k]? = some x → ∀ j, j < 8 → (accCells l)[k * 8 + j]? = (accCell x)[j]? := by
  induction l with
  | nil => intro k x h; simp at h
  | cons a r ih =>
    intro k x h j hj
    have e : accCells (a :: r) = accCell a ++ accCells r := by simp [accCells]
    have el : (accCell a).length = 8 := rfl
    rw [e]
    cases k with
    | zero =>
      simp at h; subst h
      rw [List.getElem?_append_left (by rw [el]; omega), Nat.zero_mul, Nat.zero_add]
    | succ k =>
      rw [List.getElem?_append_right (by rw [el]; omega), el, show (k + 1) * 8 + j - 8 = k * 8 + j by omega]
      exact ih k x (by simpa using h) j hj
end Go.Proofs.Ytojkeahffabifaa
