/- Objects that lie apart: boxes, steps, looks. Of whatever program. -/
import Derived.Test.YtecbnialcnplkaaM3
namespace Go.Proofs.Ytecbnialcnplkaa
open Go.RowKit
theorem Stp.comp {P : HP} {w w1 w2 : World} {F F1 : Nat → Prop} (c1 : Chg F w w1) (n1 : ∀ b, F1 b → F b ∨ w.heap.size ≤ b) (k : Stp w1 w2 F1 P) : Stp w w2 F P := by
  obtain ⟨F2, h2, c2, n2⟩ := k
  have z := c1.size
  refine ⟨F2, h2, c1.trans c2 (fun _ h => h) (fun b hb h => ?_), fun b h => ?_⟩
  · exact (n1 b h).resolve_right (by omega)
  · rcases n2 b h with h | h
    · exact n1 b h
    · exact .inr (by omega)
/-- A block of cells. -/
def BlkH (p : Nat) (cs : Array Value) (T : TypeId) : HP := fun w F => w.heap[p]? = some (.cells cs T) ∧ ∀ b, F b ↔ b = p
theorem BlkH.good (p : Nat) (cs : Array Value) (T : TypeId) : Good (BlkH p cs T) where
  chg := by
    rintro w w' F S ⟨h, hF⟩ hc hS
    exact ⟨(hc.block p (heap_lt h) (hS p ((hF p).2 rfl))).trans h, hF⟩
  lt := by
    rintro w F b ⟨h, hF⟩ hb
    obtain rfl := (hF b).1 hb
    exact heap_lt h
/-- An object is there. -/
def Has (O : HP) (w : World) : Prop := ∃ F, O w F
theorem Has.left {A B : HP} {w : World} (h : Has (Star A B) w) : Has A w := by
  obtain ⟨F, FA, FB, ha, hb, _⟩ := h
  exact ⟨FA, ha⟩
theorem Has.right {A B : HP} {w : World} (h : Has (Star A B) w) : Has B w := by
  obtain ⟨F, FA, FB, ha, hb, _⟩ := h
  exact ⟨FB, hb⟩
theorem Has.blk {p : Nat} {cs : Array Value} {T : TypeId} {w : World} (h : Has (BlkH p cs T) w) : w.heap[p]? = some (.cells cs T) := by
  obtain ⟨F, h, _⟩ := h
  exact h
theorem Stp.has {O : HP} {w w1 : World} {F : Nat → Prop} (h : Stp w w1 F O) : Has O w1 := by
  obtain ⟨F1, h1, _⟩ := h
  exact ⟨F1, h1⟩
/-- A step of the world that turns O into O'. -/
def Moves (O O' : HP) (w w' : World) : Prop := ∀ F, O w F → Stp w w' F O'
theorem Moves.left {A A' B : HP} {w w' : World} (gb : Good B) (h : Moves A A' w w') : Moves (Star A B) (Star A' B) w w' := by
  rintro F ⟨FA, FB, ha, hb, hF, hd⟩
  exact (h FA ha).left gb hb hF hd
theorem Moves.right {A B B' : HP} {w w' : World} (ga : Good A) (h : Moves B B' w w') : Moves (Star A B) (Star A B') w w' := by
  rintro F ⟨FA, FB, ha, hb, hF, hd⟩
  exact (h FB hb).right ga ha hF hd
theorem Stp.move {O O' : HP} {w w1 w2 : World} {F : Nat → Prop} (h : Stp w w1 F O) (k : Moves O O' w1 w2) : Stp w w2 F O' := h.trans k
theorem BlkH.set {p : Nat} {cs : Array Value} {T : TypeId} {w : World} (i : Nat) (v : Value) : Moves (BlkH p cs T) (BlkH p (cs.setIfInBounds i v) T) w (w.setCell ⟨p, i, none⟩ v) := by
  rintro F ⟨h, hF⟩
  exact ⟨F, ⟨heapSet_eq _ _ _ _ _ _ _ h, hF⟩, (Chg.refl F w).set _ _ (.inr ((hF p).2 rfl)), fun _ h => .inl h⟩
theorem Stp.below {O : HP} (g : Good O) {w w1 w2 : World} {F : Nat → Prop} (h : Stp w w1 F O) (hb : Below w1.heap.size w1 w2) : Stp w w2 F O := h.trans fun _ h1 => Stp.calm g h1 hb
theorem Stp.drew {O : HP} (g : Good O) {w w1 : World} {F : Nat → Prop} (h : Stp w w1 F O) : Stp w w1.drew F O := h.below g (Below.refl _ _).drew
theorem Stp.box {O : HP} (g : Good O) {w w1 : World} {F : Nat → Prop} (h : Stp w w1 F O) (cs : Array Value) (T : TypeId) : Stp w (w1.alloc (.cells cs T)) F (Star O (BlkH w1.heap.size cs T)) :=
  h.trans fun F1 h1 => ⟨fun b => F1 b ∨ b = w1.heap.size, ⟨F1, fun b => b = w1.heap.size, g.calm h1 ((Below.refl _ _).alloc (Nat.le_refl _) _), ⟨heapAlloc _ _, fun _ => Iff.rfl⟩, fun _ => Iff.rfl, fun b hb e => by have := g.lt h1 hb; omega⟩, Chg.alloc _ _ _, fun b hb => hb.imp id (fun e => by omega)⟩
theorem Stp.fst {A B : HP} {w w1 : World} {F : Nat → Prop} (h : Stp w w1 F (Star A B)) : Stp w w1 F A := by
  obtain ⟨F1, ⟨FA, FB, ha, hb, hF, hd⟩, hc, hn⟩ := h
  exact ⟨FA, ha, hc, fun b hb => hn b ((hF b).2 (.inl hb))⟩
theorem Stp.lift {P : Program} {f : FuncId} {args : Array Value} {O O' : HP} {v : Ending} (h : Lifts P f args O O' v) {w w1 : World} {F : Nat → Prop} (hs : Stp w w1 F O) : Calls P f args w1 fun e w' => e = v ∧ Stp w w' F O' := by
  obtain ⟨F1, h1, h2, h3⟩ := hs
  refine (h w1 F1 h1).mono ?_
  rintro e w' ⟨rfl, k⟩
  exact ⟨rfl, Stp.comp h2 h3 k⟩
theorem Stp.look {P : Program} {f : FuncId} {args : Array Value} {O : HP} {v : Ending} (g : Good O) (h : Looks P f args O v) {w w1 : World} {F : Nat → Prop} (hs : Stp w w1 F O) : Calls P f args w1 fun e w' => e = v ∧ Stp w w' F O := by
  obtain ⟨F1, h1⟩ := hs.has
  refine (h w1 F1 h1).mono ?_
  rintro e w' ⟨rfl, hb⟩
  exact ⟨rfl, hs.below g hb⟩
end Go.Proofs.Ytecbnialcnplkaa
