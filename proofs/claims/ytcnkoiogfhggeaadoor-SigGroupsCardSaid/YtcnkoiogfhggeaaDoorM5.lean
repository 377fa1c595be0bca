/- A list of lists of numbers in memory of its own. -/
import Derived.Test.YtcnkoiogfhggeaaDoorM3
import Derived.Maps.AppendAt
namespace Go.Proofs.YtcnkoiogfhggeaaDoor
open Go.RowKit
set_option linter.unusedVariables false
def intV (g : List Int) : List Value := g.map (Value.int .i64)
/-- The list v of the elements xs; element k is the list gs k; all lie apart. -/
structure RowsAt (w : World) (v : Value) (gs : List (List Int)) (xs : List Value) : Prop where
  out : w.ownsRow 0 22 1 v gs.length xs
  row : ∀ (k : Nat) (g : List Int) (x : Value), gs[k]? = some g → xs[k]? = some x → w.ownsRow 0 3 1 x g.length (intV g)
  off : ∀ (k : Nat) (x : Value) (b : Nat), xs[k]? = some x → x.ownBlock = some b → v.ownBlock ≠ some b
  sep : ∀ (j k : Nat) (x y : Value) (b : Nat), xs[j]? = some x → xs[k]? = some y → x.ownBlock = some b → y.ownBlock = some b → j = k
def blkR (v : Value) (xs : List Value) (b : Nat) : Prop := v.ownBlock = some b ∨ ∃ (k : Nat) (x : Value), xs[k]? = some x ∧ x.ownBlock = some b
def RowsH (v : Value) (gs : List (List Int)) : HP := fun w F => ∃ xs, RowsAt w v gs xs ∧ ∀ b, F b ↔ blkR v xs b
theorem RowsAt.len {w : World} {v : Value} {gs : List (List Int)} {xs : List Value} (h : RowsAt w v gs xs) : xs.length = gs.length := by have := h.out.1; omega
theorem RowsAt.get {w : World} {v : Value} {gs : List (List Int)} {xs : List Value} (h : RowsAt w v gs xs) {k : Nat} {x : Value} (hx : xs[k]? = some x) : ∃ g, gs[k]? = some g := by
  have hk := (List.getElem?_eq_some_iff.1 hx).1
  rw [h.len] at hk
  exact ⟨gs[k], List.getElem?_eq_getElem hk⟩
theorem RowsAt.xlt {w : World} {v : Value} {gs : List (List Int)} {xs : List Value} (h : RowsAt w v gs xs) {k : Nat} {x : Value} {b : Nat} (hx : xs[k]? = some x) (hb : x.ownBlock = some b) : b < w.heap.size := by
  obtain ⟨g, hg⟩ := h.get hx
  exact ((h.row k g x hg hx).lt b hb).2
theorem RowsAt.chg {w w' : World} {S : Nat → Prop} {v : Value} {gs : List (List Int)} {xs : List Value} (h : RowsAt w v gs xs) (hc : Chg S w w') (hS : ∀ b, blkR v xs b → ¬ S b) : RowsAt w' v gs xs where
  out := own_chg h.out hc (fun b hb => hS b (.inl hb))
  row := fun k g x hg hx => own_chg (h.row k g x hg hx) hc (fun b hb => hS b (.inr ⟨k, x, hx, hb⟩))
  off := h.off
  sep := h.sep
theorem RowsH.good (v : Value) (gs : List (List Int)) : Good (RowsH v gs) where
  chg := by
    rintro w w' F S ⟨xs, h, hF⟩ hc hS
    exact ⟨xs, h.chg hc (fun b hb => hS b ((hF b).2 hb)), hF⟩
  lt := by
    rintro w F b ⟨xs, h, hF⟩ hb
    rcases (hF b).1 hb with e | ⟨k, x, hx, e⟩
    · exact (h.out.lt b e).2
    · exact h.xlt hx e
theorem rows_nil (w : World) : RowsAt w (.slice none 0 0) [] [] :=
  ⟨World.ownsRow_nil _ _ _ _, fun k g x h => by simp at h, fun k x b h => by simp at h, fun j k x y b h => by simp at h⟩
theorem rowsH_nil (w : World) : RowsH (.slice none 0 0) [] w (fun _ => False) :=
  ⟨[], rows_nil w, fun b => ⟨False.elim, fun h => by rcases h with e | ⟨k, x, hx, _⟩ <;> simp [Value.ownBlock] at *⟩⟩
/-- Element k is looked at. -/
theorem rows_at {w : World} {v : Value} {gs : List (List Int)} {xs : List Value} (h : RowsAt w v gs xs) {k : Nat} {g : List Int} (hk : gs[k]? = some g) :
    ∃ b c x, v = .slice (some ⟨b, 0, none⟩) gs.length c ∧ w.cell? ⟨b, k, none⟩ = some x ∧ w.frozen? ⟨b, k, none⟩ = false ∧ xs[k]? = some x ∧ w.ownsRow 0 3 1 x g.length (intV g) := by
  have hlt := (List.getElem?_eq_some_iff.1 hk).1
  obtain ⟨b, c, hv, _, _, hc, hf, _⟩ := own_parts h.out (by omega)
  have hx : xs[k]? = some (xs[k]'(by rw [h.len]; exact hlt)) := List.getElem?_eq_getElem _
  exact ⟨b, c, _, hv, (hc k (by omega)).trans hx, hf k, hx, h.row k g _ hk hx⟩
theorem Chg.grow2 {F : Nat → Prop} {w w1 w2 : World} {row : Option Nat} (hb : Below w.heap.size w w1) (hg : w1.grownBy w2 row) (hr : ∀ b, row = some b → F b) : Chg F w w2 :=
  (Chg.calm F hb).grow hg (fun k hk _ => hr k hk)
/-- A list is put behind the last. -/
theorem rows_app {w w1 w2 : World} {F : Nat → Prop} {v v' x : Value} {gs : List (List Int)} {xs : List Value} {g : List Int} (h : RowsAt w v gs xs) (hF : ∀ b, F b ↔ blkR v xs b) (hb : Below w.heap.size w w1)
    (hx : w1.ownsRow 0 3 1 x g.length (intV g)) (hxb : ∀ b, x.ownBlock = some b → w.heap.size ≤ b) (ho : w2.ownsRow 0 22 1 v' (gs.length + 1) (xs ++ [x])) (hg : w1.grownBy w2 v.ownBlock)
    (hl : v'.ownBlock = v.ownBlock ∨ v'.ownBlock = some w1.heap.size) : Stp w w2 F (RowsH v' (gs ++ [g])) := by
  have hz := hb.size
  have hc : Chg (fun k => v.ownBlock = some k) w1 w2 := Chg.grown hg
  have h1 := h.chg (Chg.calm (fun _ => False) hb) (fun _ _ h => h)
  have hvl : ∀ b, v.ownBlock = some b → b < w.heap.size := fun b e => (h.out.lt b e).2
  have hget : ∀ {k : Nat} {y : Value}, (xs ++ [x])[k]? = some y → (k < gs.length ∧ xs[k]? = some y) ∨ (k = gs.length ∧ y = x) := by
    intro k y hy
    rcases Nat.lt_or_ge k xs.length with hk | hk
    · rw [List.getElem?_append_left hk] at hy
      exact .inl ⟨by rw [← h.len]; exact hk, hy⟩
    · rw [List.getElem?_append_right hk] at hy
      have : k - xs.length = 0 := by
        rcases Nat.eq_zero_or_pos (k - xs.length) with e | e
        · exact e
        · rw [List.getElem?_eq_none (by simp; omega)] at hy; cases hy
      rw [this] at hy
      simp at hy
      exact .inr ⟨by rw [← h.len]; omega, hy.symm⟩
  refine ⟨blkR v' (xs ++ [x]), ⟨xs ++ [x], ⟨by simpa using ho, ?_, ?_, ?_⟩, fun _ => Iff.rfl⟩, Chg.grow2 hb hg (fun b e => (hF b).2 (.inl e)), ?_⟩
  · intro k g' y hg' hy
    rcases hget hy with ⟨hk, hy⟩ | ⟨rfl, rfl⟩
    · rw [List.getElem?_append_left hk] at hg'
      exact own_chg (h1.row k g' y hg' hy) hc (fun b e e2 => h.off k y b hy e e2)
    · rw [List.getElem?_append_right (Nat.le_refl _)] at hg'
      simp at hg'
      subst hg'
      exact own_chg hx hc (fun b e e2 => by have := hvl b e2; have := hxb b e; omega)
  · intro k y b hy e e2
    rcases hget hy with ⟨hk, hy⟩ | ⟨rfl, rfl⟩
    · rcases hl with l | l
      · exact h.off k y b hy e (l ▸ e2)
      · have := h.xlt hy e
        rw [l] at e2
        simp at e2
        omega
    · have h5 := hxb b e
      have h6 := (hx.lt b e).2
      rcases hl with l | l
      · have := hvl b (l ▸ e2); omega
      · rw [l] at e2
        simp at e2
        omega
  · intro j k y z b hy hz' e e2
    rcases hget hy with ⟨hj, hy1⟩ | ⟨hj, hy1⟩ <;> rcases hget hz' with ⟨hk, hz1⟩ | ⟨hk, hz1⟩
    · exact h.sep j k y z b hy1 hz1 e e2
    · have := h.xlt hy1 e; rw [hz1] at e2; have := hxb b e2; omega
    · have := h.xlt hz1 e2; rw [hy1] at e; have := hxb b e; omega
    · rw [hj, hk]
  · rintro b (e | ⟨k, y, hy, e⟩)
    · rcases hl with l | l
      · exact .inl ((hF b).2 (.inl (l ▸ e)))
      · rw [l] at e
        simp at e
        omega
    · rcases hget hy with ⟨hk, hy⟩ | ⟨rfl, rfl⟩
      · exact .inl ((hF b).2 (.inr ⟨k, y, hy, e⟩))
      · exact .inr (hxb b e)
theorem get_set {α : Type} {xs : List α} {k j : Nat} {x y : α} (h : (xs.set k x)[j]? = some y) : (j = k ∧ y = x) ∨ (j ≠ k ∧ xs[j]? = some y) := by
  rw [List.getElem?_set] at h
  by_cases e : k = j
  · rw [if_pos e] at h
    split at h
    · exact .inl ⟨e.symm, (Option.some.inj h).symm⟩
    · cases h
  · rw [if_neg e] at h
    exact .inr ⟨fun h => e h.symm, h⟩
/-- The list at k has grown, in place or anew, and was put back. -/
theorem rows_grow {w w1 w2 : World} {F : Nat → Prop} {v x x' : Value} {gs : List (List Int)} {xs : List Value} {g g' : List Int} {k bo n c : Nat} (h : RowsAt w v gs xs) (hF : ∀ b, F b ↔ blkR v xs b) (hk : gs[k]? = some g) (hx : xs[k]? = some x) (hb : Below w.heap.size w w1)
    (ho : w2.ownsRow 0 3 1 x' g'.length (intV g')) (hg : w1.grownBy w2 x.ownBlock) (hl : x'.ownBlock = x.ownBlock ∨ x'.ownBlock = some w1.heap.size) (hv : v = .slice (some ⟨bo, 0, none⟩) n c) :
    Stp w (w2.setCell ⟨bo, k, none⟩ x') F (RowsH v (gs.set k g')) := by
  have hz := hb.size
  have hlt := (List.getElem?_eq_some_iff.1 hk).1
  have hc : Chg (fun k => x.ownBlock = some k) w1 w2 := Chg.grown hg
  have h1 := h.chg (Chg.calm (fun _ => False) hb) (fun _ _ h => h)
  have hvb : v.ownBlock = some bo := by rw [hv]; rfl
  have hbo : bo < w.heap.size := (h.out.lt bo hvb).2
  have hx'o : ∀ b, x'.ownBlock = some b → x.ownBlock = some b ∨ w.heap.size ≤ b := by
    intro b e
    rcases hl with l | l
    · exact .inl (l ▸ e)
    · rw [l] at e; simp at e; exact .inr (by omega)
  have hxbo : x.ownBlock ≠ some bo := fun e => h.off k x bo hx e hvb
  have hx'bo : x'.ownBlock ≠ some bo := by
    intro e
    rcases hx'o bo e with e | e
    · exact hxbo e
    · omega
  have hout2 : w2.ownsRow 0 22 1 v gs.length xs := own_chg h1.out hc (fun b e e2 => h.off k x b hx e2 e)
  obtain ⟨b2, c2, hv2, _, _, _, _, hset⟩ := own_parts hout2 (by omega)
  obtain rfl : b2 = bo := by
    rw [hv2] at hvb
    simpa [Value.ownBlock] using hvb
  have hset' := hset k x' (by omega)
  have hcs : Chg (fun b => b = b2) w2 (w2.setCell ⟨b2, k, none⟩ x') := Chg.setCell w2 ⟨b2, k, none⟩ x'
  refine ⟨blkR v (xs.set k x'), ⟨xs.set k x', ⟨by simpa using hset', ?_, ?_, ?_⟩, fun _ => Iff.rfl⟩, ?_, ?_⟩
  · intro j g1 y hg1 hy
    rcases get_set hy with ⟨rfl, rfl⟩ | ⟨hj, hy⟩
    · rcases get_set hg1 with ⟨_, rfl⟩ | ⟨hj, _⟩
      · exact own_chg ho hcs (fun b e e2 => hx'bo (by rw [e, e2]))
      · exact absurd rfl hj
    · rcases get_set hg1 with ⟨e, _⟩ | ⟨_, hg1⟩
      · exact absurd e hj
      · refine own_chg (own_chg (h1.row j g1 y hg1 hy) hc (fun b e e2 => hj (h.sep j k y x b hy hx e e2))) hcs (fun b e e2 => ?_)
        subst e2
        exact h.off j y b hy e hvb
  · intro j y b hy e e2
    rcases get_set hy with ⟨rfl, rfl⟩ | ⟨hj, hy⟩
    · rw [hvb] at e2
      exact hx'bo (by rw [e, ← e2])
    · exact h.off j y b hy e e2
  · intro i j y z b hy hz' e e2
    rcases get_set hy with ⟨hi, hy1⟩ | ⟨hi, hy1⟩ <;> rcases get_set hz' with ⟨hj, hz1⟩ | ⟨hj, hz1⟩
    · rw [hi, hj]
    · rw [hy1] at e
      rcases hx'o b e with e | e
      · rw [hi]; exact h.sep _ _ x z b hx hz1 e e2
      · have := h.xlt hz1 e2; omega
    · rw [hz1] at e2
      rcases hx'o b e2 with e2 | e2
      · rw [hj]; exact h.sep _ _ y x b hy1 hx e e2
      · have := h.xlt hy1 e; omega
    · exact h.sep i j y z b hy1 hz1 e e2
  · exact (Chg.grow2 hb hg (fun b e => (hF b).2 (.inr ⟨k, x, hx, e⟩))).set _ _ (.inr ((hF b2).2 (.inl hvb)))
  · rintro b (e | ⟨j, y, hy, e⟩)
    · exact .inl ((hF b).2 (.inl e))
    · rcases get_set hy with ⟨rfl, rfl⟩ | ⟨hj, hy⟩
      · exact (hx'o b e).imp (fun e => (hF b).2 (.inr ⟨_, x, hx, e⟩)) id
      · exact .inl ((hF b).2 (.inr ⟨j, y, hy, e⟩))
/-- A number of the list at k is overwritten. -/
theorem rows_set {w : World} {F : Nat → Prop} {v x : Value} {gs : List (List Int)} {xs : List Value} {g : List Int} {k j bx n c : Nat} (h : RowsAt w v gs xs) (hF : ∀ b, F b ↔ blkR v xs b) (hk : gs[k]? = some g) (hx : xs[k]? = some x) (hj : j < g.length)
    (hv : x = .slice (some ⟨bx, 0, none⟩) n c) (z : Int) : Stp w (w.setCell ⟨bx, j, none⟩ (.int .i64 z)) F (RowsH v (gs.set k (g.set j z))) := by
  have hlt := (List.getElem?_eq_some_iff.1 hk).1
  have hxb : x.ownBlock = some bx := by rw [hv]; rfl
  have hcs : Chg (fun b => b = bx) w (w.setCell ⟨bx, j, none⟩ (.int .i64 z)) := Chg.setCell w ⟨bx, j, none⟩ (.int .i64 z)
  obtain ⟨b2, c2, hv2, _, _, _, _, hset⟩ := own_parts (h.row k g x hk hx) (by omega)
  obtain rfl : b2 = bx := by
    rw [hv2] at hxb
    simpa [Value.ownBlock] using hxb
  have hset' := hset j (.int .i64 z) (by omega)
  refine ⟨F, ⟨xs, ⟨?_, ?_, h.off, h.sep⟩, hF⟩, (Chg.refl F w).set _ _ (.inr ((hF b2).2 (.inr ⟨k, x, hx, hxb⟩))), fun _ h => .inl h⟩
  · rw [List.length_set]
    exact own_chg h.out hcs (fun b e e2 => h.off k x b hx (by rw [hxb, e2]) e)
  · intro i g1 y hg1 hy
    rcases get_set hg1 with ⟨rfl, rfl⟩ | ⟨hi, hg1⟩
    · obtain rfl : x = y := Option.some.inj (hx.symm.trans hy)
      rw [List.length_set]
      have e : intV (g.set j z) = (intV g).set j (.int .i64 z) := by unfold intV; rw [List.map_set]
      rw [e]
      exact hset'
    · exact own_chg (h.row i g1 y hg1 hy) hcs (fun b e e2 => hi (h.sep i k y x b hy hx e (by rw [hxb, e2])))
end Go.Proofs.YtcnkoiogfhggeaaDoor
