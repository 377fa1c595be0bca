/- An object that holds one list of numbers. Of whatever program. -/
import Derived.Test.YtecbnialcnplkaaM3b
namespace Go.Proofs.Ytecbnialcnplkaa
open Go.RowKit
/-- A struct at y (f tells its cells by the list's value), and the list's numbers. -/
def LstH (y : Nat) (f : Value → Array Value) (T E : TypeId) (L : List Int) : HP := fun w F =>
  ∃ lv, w.heap[y]? = some (.cells (f lv) T) ∧ w.ownsRow 0 E 1 lv L.length (L.map (Value.int .i64)) ∧ lv.ownBlock ≠ some y ∧ ∀ b, F b ↔ b = y ∨ lv.ownBlock = some b
theorem LstH.good (y : Nat) (f : Value → Array Value) (T E : TypeId) (L : List Int) : Good (LstH y f T E L) where
  chg := by
    rintro w w' F S ⟨lv, h1, h2, h3, h4⟩ hc hS
    exact ⟨lv, (hc.block y (heap_lt h1) (hS y ((h4 y).2 (.inl rfl)))).trans h1, own_chg h2 hc (fun b hb => hS b ((h4 b).2 (.inr hb))), h3, h4⟩
  lt := by
    rintro w F b ⟨lv, h1, h2, h3, h4⟩ h
    rcases (h4 b).1 h with rfl | h
    · exact heap_lt h1
    · exact (h2.lt b h).2
/-- The list has grown, and the struct was told. -/
theorem lst_grown {w w2 : World} {F : Nat → Prop} {y i : Nat} {f : Value → Array Value} {T E : TypeId} {L' : List Int} {lv lv' : Value} (h1 : w.heap[y]? = some (.cells (f lv) T)) (h3 : lv.ownBlock ≠ some y) (h4 : ∀ b, F b ↔ b = y ∨ lv.ownBlock = some b)
    (hf : (f lv).setIfInBounds i lv' = f lv') (ho : w2.ownsRow 0 E 1 lv' L'.length (L'.map (Value.int .i64))) (hc : Chg (fun b => lv.ownBlock = some b) w w2) (hw : lv'.ownBlock = lv.ownBlock ∨ ∃ b, lv'.ownBlock = some b ∧ w.heap.size ≤ b) :
    Stp w (w2.setCell ⟨y, i, none⟩ lv') F (LstH y f T E L') := by
  have hr := heap_lt h1
  have hn' : lv'.ownBlock ≠ some y := by
    intro e
    rcases hw with h | ⟨b', h, hb'⟩
    · exact h3 (h ▸ e)
    · rw [h] at e
      simp at e; omega
  have hm := (hc.block y hr (fun e => h3 e)).trans h1
  refine ⟨fun b => b = y ∨ lv'.ownBlock = some b, ⟨lv', (heapSet_eq _ _ _ _ _ _ _ hm).trans (by rw [hf]), ?_, hn', fun b => Iff.rfl⟩, ?_, ?_⟩
  · exact own_chg ho (Chg.setCell _ _ _) (fun b hb (e : b = y) => hn' (by rw [hb, e]))
  · exact (hc.mono (fun b hb => (h4 b).2 (.inr hb))).set _ _ (.inr ((h4 y).2 (.inl rfl)))
  · rintro b (h | h)
    · exact .inl ((h4 b).2 (.inl h))
    · rcases hw with e | ⟨b', e, hb'⟩
      · exact .inl ((h4 b).2 (.inr (e ▸ h)))
      · rw [e] at h
        simp at h; right; omega
theorem int_at {w : World} {lv : Value} {E : TypeId} {L : List Int} (h : w.ownsRow 0 E 1 lv L.length (L.map (Value.int .i64))) {k : Nat} {x : Int} (hx : L[k]? = some x) : ∃ g c, lv = .slice (some ⟨g, 0, none⟩) L.length c ∧ w.cell? ⟨g, k, none⟩ = some (.int .i64 x) := by
  have hk : k < L.length := (List.getElem?_eq_some_iff.1 hx).1
  obtain ⟨g, c, hv, _, _, hc, _, _⟩ := own_parts h (by omega)
  exact ⟨g, c, hv, (hc k (by omega)).trans (by rw [List.getElem?_map, hx]; rfl)⟩
end Go.Proofs.Ytecbnialcnplkaa
