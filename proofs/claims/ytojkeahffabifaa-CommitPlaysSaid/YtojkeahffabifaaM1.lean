/- What changes of a world, block by block; slices of the call's own in a set of blocks. Of whatever program. -/
import Derived.Test.YtojkeahffabifaaS1
import Derived.Below
import Derived.OwnWalk
namespace Go.Proofs.Ytojkeahffabifaa
open Go.RowKit
/-- Only blocks of S have changed; blocks may have come. -/
structure Chg (S : Nat → Prop) (w w' : World) : Prop where
  os : w'.os = w.os
  tape : w'.tape = w.tape
  output : w'.output = w.output
  size : w.heap.size ≤ w'.heap.size
  block : ∀ k, k < w.heap.size → ¬ S k → w'.heap[k]? = w.heap[k]?
theorem Chg.refl (S : Nat → Prop) (w : World) : Chg S w w := ⟨rfl, rfl, rfl, Nat.le_refl _, fun _ _ _ => rfl⟩
theorem Chg.trans {S T U : Nat → Prop} {a b c : World} (h : Chg S a b) (k : Chg T b c) (h1 : ∀ i, S i → U i) (h2 : ∀ i, i < a.heap.size → T i → U i) : Chg U a c :=
  ⟨k.os.trans h.os, k.tape.trans h.tape, k.output.trans h.output, Nat.le_trans h.size k.size, fun i hi hn => (k.block i (Nat.lt_of_lt_of_le hi h.size) (fun e => hn (h2 i hi e))).trans (h.block i hi (fun e => hn (h1 i e)))⟩
theorem Chg.mono {S T : Nat → Prop} {a b : World} (h : Chg S a b) (h1 : ∀ i, S i → T i) : Chg T a b :=
  ⟨h.os, h.tape, h.output, h.size, fun i hi hn => h.block i hi (fun e => hn (h1 i e))⟩
/-- A call that only makes memory. -/
theorem Chg.calm {w w' : World} (S : Nat → Prop) (h : Below w.heap.size w w') : Chg S w w' :=
  ⟨h.os, h.tape, h.output, h.size, fun i hi _ => h.block i hi⟩
theorem Chg.below {S : Nat → Prop} {w w' : World} {B : Nat} (h : Chg S w w') (hS : ∀ i, S i → B ≤ i) (hB : B ≤ w.heap.size) : Below B w w' :=
  ⟨h.os, h.tape, h.output, h.size, fun i hi => h.block i (by omega) (fun e => by have := hS i e; omega)⟩
theorem Chg.nothing {w w' : World} (h : Chg (fun _ => False) w w') : Below w.heap.size w w' := h.below (fun _ h => h.elim) (Nat.le_refl _)
theorem Chg.grown {w w' : World} {row : Option Nat} (h : w.grownBy w' row) : Chg (fun k => row = some k) w w' :=
  ⟨h.os, h.tape, h.output, h.size, fun i hi hn => h.block i hi (fun e => hn e.symm)⟩
theorem Chg.setCell (w : World) (a : Addr) (v : Value) : Chg (fun k => k = a.block) w (w.setCell a v) :=
  ⟨rfl, rfl, rfl, by simp [World.setCell], fun i _ hn => Below.heap_setCell _ _ _ _ hn⟩
theorem Chg.alloc (S : Nat → Prop) (w : World) (o : Obj) : Chg S w (w.alloc o) := Chg.calm S ((Below.refl _ _).alloc (Nat.le_refl _) o)
theorem Chg.drew {S : Nat → Prop} {a w : World} (h : Chg S a w) : Chg S a w.drew := ⟨h.os, h.tape, h.output, h.size, h.block⟩
theorem Chg.set {S : Nat → Prop} {a w : World} (h : Chg S a w) (p : Addr) (v : Value) (hp : a.heap.size ≤ p.block ∨ S p.block) : Chg S a (w.setCell p v) :=
  h.trans (Chg.setCell w p v) (fun _ h => h) (fun i hi e => by subst e; exact hp.resolve_left (by omega))
theorem Chg.more {S : Nat → Prop} {a w : World} (h : Chg S a w) (o : Obj) : Chg S a (w.alloc o) := h.trans (Chg.alloc S w o) (fun _ h => h) (fun _ _ h => h)
theorem Chg.step {S : Nat → Prop} {a w w' : World} (h : Chg S a w) (hb : Below w.heap.size w w') : Chg S a w' := h.trans (Chg.calm S hb) (fun _ h => h) (fun _ _ h => h)
theorem Chg.grow {S : Nat → Prop} {a w w' : World} {row : Option Nat} (h : Chg S a w) (hg : w.grownBy w' row) (hr : ∀ k, row = some k → k < a.heap.size → S k) : Chg S a w' :=
  h.trans (Chg.grown hg) (fun _ h => h) (fun i hi e => hr i e hi)

theorem heapSet_ne (w : World) (a : Addr) (v : Value) (k : Nat) (h : k ≠ a.block) : (w.setCell a v).heap[k]? = w.heap[k]? := Below.heap_setCell _ _ _ _ h
theorem heapSet_eq (w : World) (b i : Nat) (v : Value) (cs : Array Value) (T : TypeId) (fr : Nat × Nat) (h : w.heap[b]? = some (.cells cs T fr)) : (w.setCell ⟨b, i, none⟩ v).heap[b]? = some (.cells (cs.setIfInBounds i v) T fr) := by
  simp [World.setCell, Array.getElem?_modify, h]
theorem heap_lt {w : World} {b : Nat} {o : Obj} (h : w.heap[b]? = some o) : b < w.heap.size := (Array.getElem?_eq_some_iff.1 h).1
theorem heapAlloc (w : World) (o : Obj) : (w.alloc o).heap[w.heap.size]? = some o := by
  show (w.heap.push o)[w.heap.size]? = _
  simp
theorem heapAlloc_old {w : World} {b : Nat} {o : Obj} (h : w.heap[b]? = some o) (o2 : Obj) : (w.alloc o2).heap[b]? = some o :=
  (Below.heap_alloc _ _ _ (heap_lt h)).trans h

/-! ### slices of the call's own -/
theorem ownAt_form {w : World} {B e size n : Nat} {v : Value} {xs : List Value} (h : w.ownsRow B e size v n xs) : ∃ a c, v = .slice a n c := by
  rcases h.2 with ⟨rfl, rfl⟩ | ⟨g, cap, cur, rfl, _⟩
  · exact ⟨_, _, rfl⟩
  · exact ⟨_, _, rfl⟩
theorem own_chg {S : Nat → Prop} {w w' : World} {B e size n : Nat} {v : Value} {xs : List Value} (h : w.ownsRow B e size v n xs) (hc : Chg S w w') (hS : ∀ b, v.ownBlock = some b → ¬ S b) : w'.ownsRow B e size v n xs :=
  ⟨h.1, h.2.elim Or.inl fun ⟨g, cap, cur, hv, hg, hh, r⟩ => Or.inr ⟨g, cap, cur, hv, hg, (hc.block g (heap_lt hh) (hS g (by rw [hv]; rfl))).trans hh, r⟩⟩
theorem own_calm {w w' : World} {B e size n : Nat} {v : Value} {xs : List Value} (h : w.ownsRow B e size v n xs) (hb : Below w.heap.size w w') : w'.ownsRow B e size v n xs :=
  own_chg (S := fun _ => False) h (Chg.calm _ hb) (fun _ _ h => h)
theorem own_base {w : World} {B B' e size n : Nat} {v : Value} {xs : List Value} (h : w.ownsRow B e size v n xs) (hB : ∀ b, v.ownBlock = some b → B' ≤ b) : w.ownsRow B' e size v n xs :=
  ⟨h.1, h.2.elim Or.inl fun ⟨g, cap, cur, hv, hg, r⟩ => Or.inr ⟨g, cap, cur, hv, hB g (by rw [hv]; rfl), r⟩⟩
theorem own_parts {w : World} {B T sz n : Nat} {v : Value} {xs : List Value} (h : w.ownsRow B T sz v n xs) (hn : 0 < n) :
    ∃ g c, v = .slice (some ⟨g, 0, none⟩) n c ∧ B ≤ g ∧ g < w.heap.size ∧ (∀ k, k < n * sz → w.cell? ⟨g, k, none⟩ = xs[k]?) ∧ (∀ o, w.frozen? ⟨g, o, none⟩ = false) ∧
      ∀ k u, k < n * sz → (w.setCell ⟨g, k, none⟩ u).ownsRow B T sz v n (xs.set k u) := by
  obtain ⟨hl, h2⟩ := h
  rcases h2 with ⟨hv, rfl⟩ | ⟨g, cap, cur, hv, hB, hg, hnc, hcm, hcs, htake⟩
  · omega
  · refine ⟨g, cap, hv, hB, heap_lt hg, fun k hk => ?_, fun o => by simp [World.frozen?, hg], fun k u hk => ⟨by simpa using hl, .inr ⟨g, cap, cur.setIfInBounds k u, hv, hB, heapSet_eq _ _ _ _ _ _ _ hg, hnc, hcm, by simpa using hcs, ?_⟩⟩⟩
    · rw [cell_of_row w g k cur T (0, 0) hg]
      have h1 : (cur.toList.take (n * sz))[k]? = xs[k]? := by rw [htake]
      rw [List.getElem?_take, if_pos hk] at h1
      rw [← h1]
      simp
    · rw [← htake, Array.toList_setIfInBounds, List.take_set]
theorem own_len {w : World} {B T sz n : Nat} {v : Value} {xs : List Value} (h : w.ownsRow B T sz v n xs) : n ≤ 9223372036854775807 := by
  rcases h.2 with ⟨_, rfl⟩ | ⟨g, cap, cur, hv, hB, hg, hnc, hcm, _⟩
  · omega
  · unfold maxLen at hcm; omega
/-- The cells of a slice of two-cell structs. -/
def rowCells (rows : List (Int × Int)) : List Value := rows.flatMap fun r => [.int .i64 r.1, .int .i64 r.2]
theorem rowCells_length : ∀ rows : List (Int × Int), (rowCells rows).length = rows.length * 2
  | [] => rfl
  | r :: rs => by
    have := rowCells_length rs
    simp only [rowCells, List.flatMap_cons, List.length_append, List.length_cons, List.length_nil] at *
    omega
theorem rowCells_app (a b : List (Int × Int)) : rowCells (a ++ b) = rowCells a ++ rowCells b := by simp [rowCells]
theorem rowCells_get : ∀ (rows : List (Int × Int)) (i : Nat) (r : Int × Int), rows[i]? = some r → (rowCells rows)[i * 2]? = some (.int .i64 r.1) ∧ (rowCells rows)[i * 2 + 1]? = some (.int .i64 r.2)
  | [], i, r, h => by simp at h
  | r0 :: rs, 0, r, h => by
    simp at h
    subst h
    simp [rowCells]
  | r0 :: rs, i + 1, r, h => by
    have ih := rowCells_get rs i r (by simpa using h)
    have e1 : (i + 1) * 2 = i * 2 + 2 := by omega
    have e2 : (i + 1) * 2 + 1 = i * 2 + 1 + 2 := by omega
    have e : rowCells (r0 :: rs) = .int .i64 r0.1 :: .int .i64 r0.2 :: rowCells rs := rfl
    rw [e, e2, e1]
    simpa using ih
theorem rowCells_set : ∀ (rows : List (Int × Int)) (i : Nat) (a v : Int), (rows[i]?).map (·.1) = some a → (rowCells rows).set (i * 2 + 1) (.int .i64 v) = rowCells (rows.set i (a, v))
  | [], i, a, v, h => by simp at h
  | r0 :: rs, 0, a, v, h => by
    simp at h
    subst h
    rfl
  | r0 :: rs, i + 1, a, v, h => by
    have ih := rowCells_set rs i a v (by simpa using h)
    have e2 : (i + 1) * 2 + 1 = i * 2 + 1 + 2 := by omega
    have e : rowCells (r0 :: rs) = .int .i64 r0.1 :: .int .i64 r0.2 :: rowCells rs := rfl
    rw [e, e2]
    show _ = rowCells (r0 :: rs.set i (a, v))
    have e3 : rowCells (r0 :: rs.set i (a, v)) = .int .i64 r0.1 :: .int .i64 r0.2 :: rowCells (rs.set i (a, v)) := rfl
    rw [e3, ← ih]
    rfl
end Go.Proofs.Ytojkeahffabifaa
