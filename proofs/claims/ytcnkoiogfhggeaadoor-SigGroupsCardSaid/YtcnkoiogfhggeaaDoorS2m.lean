/- Plain: a list whose first k places were written anew. -/
import Derived.Test.YtcnkoiogfhggeaaDoorProg
import Derived.WalkKit
namespace Go.Proofs.YtcnkoiogfhggeaaDoor
section
variable {α : Type}
def preL (f : Nat → α) (k : Nat) (l : List α) : List α := (List.range k).map f ++ l.drop k
theorem preL_zero (f : Nat → α) (l : List α) : preL f 0 l = l := by simp [preL]
theorem preL_len (f : Nat → α) (k : Nat) (l : List α) (h : k ≤ l.length) : (preL f k l).length = l.length := by simp [preL]; omega
theorem preL_get (f : Nat → α) (l : List α) {k : Nat} : (preL f k l)[k]? = l[k]? := by
  unfold preL
  rw [List.getElem?_append_right (by simp)]
  simp
theorem preL_at (f : Nat → α) (l : List α) {k j : Nat} (h : j < k) : (preL f k l)[j]? = some (f j) := by
  unfold preL
  rw [List.getElem?_append_left (by simpa using h)]
  simp [h]
theorem preL_full (f : Nat → α) (l : List α) : preL f l.length l = (List.range l.length).map f := by simp [preL]
theorem preL_succ (f : Nat → α) (l : List α) {k : Nat} (h : k < l.length) : (preL f k l).set k (f k) = preL f (k + 1) l := by
  apply List.ext_getElem?
  intro j
  rw [List.getElem?_set]
  by_cases e : k = j
  · subst e
    rw [if_pos rfl, if_pos (by rw [preL_len f k l (by omega)]; exact h), preL_at f l (Nat.lt_succ_self k)]
  · rw [if_neg e]
    rcases Nat.lt_or_ge j k with hj | hj
    · rw [preL_at f l hj, preL_at f l (by omega)]
    · unfold preL
      rw [List.getElem?_append_right (by simpa using hj), List.getElem?_append_right (by simp; omega)]
      simp only [List.length_map, List.length_range, List.getElem?_drop]
      congr 1
      omega
theorem set_self {l : List α} {k : Nat} {x : α} (h : l[k]? = some x) : l.set k x = l := by
  apply List.ext_getElem?
  intro j
  rw [List.getElem?_set]
  by_cases e : k = j
  · subst e
    rw [if_pos rfl, if_pos (List.getElem?_eq_some_iff.1 h).1, h]
  · rw [if_neg e]
theorem get_set_self {l : List α} {k : Nat} (x : α) (h : k < l.length) : (l.set k x)[k]? = some x := by rw [List.getElem?_set, if_pos rfl, if_pos h]
end
def ovF (j m : Nat) : Int := -1000 * (j : Int) - (m : Int)
def repG (j n : Nat) : List Int := (List.range n).map (ovF j) ++ [-1000 * (j : Int) - 500]
theorem repG_len (j n : Nat) : (repG j n).length = n + 1 := by simp [repG]
theorem repG_last (j n : Nat) : (repG j n)[n]? = some (-1000 * (j : Int) - 500) := by
  unfold repG
  rw [List.getElem?_append_right (by simp)]
  simp
theorem repG_get {j n m : Nat} (h : m < n) : (repG j n)[m]? = some (ovF j m) := by
  unfold repG
  rw [List.getElem?_append_left (by simpa using h)]
  simp [h]
theorem repG_app {j : Nat} (g : List Int) : preL (ovF j) g.length g ++ [-1000 * (j : Int) - 500] = repG j g.length := by rw [preL_full]; rfl
/-- The first i lists were written anew and have grown. -/
def midG (gs : List (List Int)) (i : Nat) : List (List Int) := preL (fun j => repG j (gs.getD j []).length) i gs
theorem midG_get {gs : List (List Int)} {i : Nat} {g : List Int} (h : gs[i]? = some g) : (midG gs i)[i]? = some g := (preL_get _ _).trans h
theorem midG_len {gs : List (List Int)} {i : Nat} (h : i ≤ gs.length) : (midG gs i).length = gs.length := preL_len _ _ _ h
theorem midG_succ {gs : List (List Int)} {i : Nat} {g : List Int} (h : gs[i]? = some g) : (midG gs i).set i (repG i g.length) = midG gs (i + 1) := by
  have hi := (List.getElem?_eq_some_iff.1 h).1
  have e : (gs.getD i []).length = g.length := by simp [List.getD, h]
  have hs := preL_succ (fun j => repG j (gs.getD j []).length) gs hi
  simp only [e] at hs
  exact hs
theorem midG_done {gs : List (List Int)} {j : Nat} {g : List Int} (h : gs[j]? = some g) : (midG gs gs.length)[j]? = some (repG j g.length) := by
  have e : (gs.getD j []).length = g.length := by simp [List.getD, h]
  have hs := preL_at (fun j => repG j (gs.getD j []).length) gs (List.getElem?_eq_some_iff.1 h).1
  simp only [e] at hs
  exact hs
end Go.Proofs.YtcnkoiogfhggeaaDoor
