/- Objects that lie apart: steps on one leave the others. Of whatever program. -/
import Derived.Test.YtecbnialcnplkaaM1
import Derived.WalkKit
namespace Go.Proofs.Ytecbnialcnplkaa
open Go.RowKit
abbrev HP := World → (Nat → Prop) → Prop
structure Good (O : HP) : Prop where
  chg : ∀ {w w' : World} {F S : Nat → Prop}, O w F → Chg S w w' → (∀ b, F b → ¬ S b) → O w' F
  lt : ∀ {w : World} {F : Nat → Prop} {b : Nat}, O w F → F b → b < w.heap.size
/-- Two objects that lie apart. -/
def Star (A B : HP) : HP := fun w F => ∃ FA FB, A w FA ∧ B w FB ∧ (∀ b, F b ↔ FA b ∨ FB b) ∧ ∀ b, FA b → ¬ FB b
/-- A step that turns an object of the blocks F into one as O says. -/
def Stp (w w' : World) (F : Nat → Prop) (O : HP) : Prop := ∃ F', O w' F' ∧ Chg F w w' ∧ ∀ b, F' b → F b ∨ w.heap.size ≤ b
theorem Good.calm {O : HP} (g : Good O) {w w' : World} {F : Nat → Prop} (h : O w F) (hb : Below w.heap.size w w') : O w' F := g.chg (S := fun _ => False) h (Chg.calm _ hb) fun _ _ h => h
theorem Good.star {A B : HP} (ga : Good A) (gb : Good B) : Good (Star A B) where
  chg := by
    rintro w w' F S ⟨FA, FB, ha, hb, hF, hd⟩ hc hS
    exact ⟨FA, FB, ga.chg ha hc (fun b h => hS b ((hF b).2 (.inl h))), gb.chg hb hc (fun b h => hS b ((hF b).2 (.inr h))), hF, hd⟩
  lt := by
    rintro w F b ⟨FA, FB, ha, hb, hF, hd⟩ h
    rcases (hF b).1 h with h | h
    · exact ga.lt ha h
    · exact gb.lt hb h
theorem Stp.calm {O : HP} (g : Good O) {w w' : World} {F : Nat → Prop} (h : O w F) (hb : Below w.heap.size w w') : Stp w w' F O := ⟨F, g.calm h hb, Chg.calm F hb, fun _ h => .inl h⟩
theorem Stp.refl {O : HP} {w : World} {F : Nat → Prop} (h : O w F) : Stp w w F O := ⟨F, h, Chg.refl _ _, fun _ h => .inl h⟩
theorem Stp.trans {O P : HP} {w w1 w2 : World} {F : Nat → Prop} (h : Stp w w1 F O) (k : ∀ F1, O w1 F1 → Stp w1 w2 F1 P) : Stp w w2 F P := by
  obtain ⟨F1, h1, c1, n1⟩ := h
  obtain ⟨F2, h2, c2, n2⟩ := k F1 h1
  have z := c1.size
  refine ⟨F2, h2, c1.trans c2 (fun _ h => h) (fun b hb h => ?_), fun b h => ?_⟩
  · exact (n1 b h).resolve_right (by omega)
  · rcases n2 b h with h | h
    · exact n1 b h
    · exact .inr (by omega)
theorem Stp.preC {O : HP} {w w1 w2 : World} {F : Nat → Prop} (hc : Chg F w w1) (h : Stp w1 w2 F O) : Stp w w2 F O := by
  obtain ⟨F1, h1, c, n⟩ := h
  have z := hc.size
  exact ⟨F1, h1, hc.trans c (fun _ h => h) (fun _ _ h => h), fun b h => (n b h).imp id (fun h => by omega)⟩
theorem Stp.pre {O : HP} {w w1 w2 : World} {F : Nat → Prop} (hb : Below w.heap.size w w1) (h : Stp w1 w2 F O) : Stp w w2 F O := by
  obtain ⟨F1, h1, c, n⟩ := h
  have z := hb.size
  exact ⟨F1, h1, (Chg.calm F hb).trans c (fun _ h => h) (fun _ _ h => h), fun b h => (n b h).imp id (fun h => by omega)⟩
theorem Stp.left {B A' : HP} (gb : Good B) {w w' : World} {F FA FB : Nat → Prop} (hs : Stp w w' FA A') (hb : B w FB) (hF : ∀ b, F b ↔ FA b ∨ FB b) (hd : ∀ b, FA b → ¬ FB b) : Stp w w' F (Star A' B) := by
  obtain ⟨F1, h1, c1, n1⟩ := hs
  refine ⟨fun b => F1 b ∨ FB b, ⟨F1, FB, h1, gb.chg hb c1 (fun b h h2 => hd b h2 h), fun b => Iff.rfl, fun b h h2 => ?_⟩, c1.mono (fun b h => (hF b).2 (.inl h)), fun b h => ?_⟩
  · rcases n1 b h with h | h
    · exact hd b h h2
    · have := gb.lt hb h2; omega
  · rcases h with h | h
    · exact (n1 b h).imp (fun h => (hF b).2 (.inl h)) id
    · exact .inl ((hF b).2 (.inr h))
theorem Star.comm {A B : HP} {w : World} {F : Nat → Prop} (h : Star A B w F) : Star B A w F := by
  obtain ⟨FA, FB, ha, hb, hF, hd⟩ := h
  exact ⟨FB, FA, hb, ha, fun b => (hF b).trans Or.comm, fun b h h2 => hd b h2 h⟩
theorem Stp.imp {A B : HP} {w w' : World} {F : Nat → Prop} (h : Stp w w' F A) (k : ∀ F, A w' F → B w' F) : Stp w w' F B := by
  obtain ⟨F1, h1, h2⟩ := h
  exact ⟨F1, k F1 h1, h2⟩
theorem Stp.right {A B' : HP} (ga : Good A) {w w' : World} {F FA FB : Nat → Prop} (hs : Stp w w' FB B') (ha : A w FA) (hF : ∀ b, F b ↔ FA b ∨ FB b) (hd : ∀ b, FA b → ¬ FB b) : Stp w w' F (Star A B') :=
  (Stp.left ga hs ha (fun b => (hF b).trans Or.comm) (fun b h h2 => hd b h2 h)).imp fun _ h => h.comm
/-- An object that was made behind w0, with nothing else changed. -/
def AtW (w0 : World) (O : HP) (wr : World) : Prop := ∃ F, O wr F ∧ Below w0.heap.size w0 wr ∧ ∀ b, F b → w0.heap.size ≤ b
theorem AtW.below {w0 wr : World} {O : HP} (h : AtW w0 O wr) : Below w0.heap.size w0 wr := by
  obtain ⟨_, _, h, _⟩ := h
  exact h
theorem AtW.calm {w0 wr w' : World} {O : HP} (g : Good O) (h : AtW w0 O wr) (hb : Below wr.heap.size wr w') : AtW w0 O w' := by
  obtain ⟨F, h1, h2, h3⟩ := h
  exact ⟨F, g.calm h1 hb, h2.trans (hb.mono h2.size), h3⟩
theorem AtW.imp {w0 wr : World} {O P : HP} (h : AtW w0 O wr) (k : ∀ F, O wr F → P wr F) : AtW w0 P wr := by
  obtain ⟨F, h1, h2, h3⟩ := h
  exact ⟨F, k F h1, h2, h3⟩
theorem AtW.stp {w0 wr w' : World} {O : HP} {F : Nat → Prop} (h2 : Below w0.heap.size w0 wr) (h3 : ∀ b, F b → w0.heap.size ≤ b) (hs : Stp wr w' F O) : AtW w0 O w' := by
  obtain ⟨F1, h1, c, n⟩ := hs
  have z := h2.size
  exact ⟨F1, h1, h2.trans (c.below h3 z), fun b h => (n b h).elim (h3 b) (fun h => by omega)⟩
theorem AtW.new {w0 w1 w2 : World} {A B : HP} (ga : Good A) (h : AtW w0 A w1) (k : AtW w1 B w2) : AtW w0 (Star A B) w2 := by
  obtain ⟨FA, h1, h2, h3⟩ := h
  obtain ⟨FB, k1, k2, k3⟩ := k
  have z := h2.size
  refine ⟨fun b => FA b ∨ FB b, ⟨FA, FB, ga.calm h1 k2, k1, fun _ => Iff.rfl, fun b h h' => ?_⟩, h2.trans (k2.mono z), fun b h => ?_⟩
  · have := ga.lt h1 h
    have := k3 b h'
    omega
  · rcases h with h | h
    · exact h3 b h
    · have := k3 b h; omega
/-- A call that turns an object into another one, and answers v. -/
def Lifts (P : Program) (f : FuncId) (args : Array Value) (O O' : HP) (v : Ending) : Prop := ∀ w F, O w F → Calls P f args w fun e w' => e = v ∧ Stp w w' F O'
theorem Lifts.left {P : Program} {f : FuncId} {args : Array Value} {A A' B : HP} {v : Ending} (gb : Good B) (h : Lifts P f args A A' v) : Lifts P f args (Star A B) (Star A' B) v := by
  rintro w F ⟨FA, FB, ha, hb, hF, hd⟩
  refine (h w FA ha).mono ?_
  rintro e w' ⟨rfl, hs⟩
  exact ⟨rfl, hs.left gb hb hF hd⟩
theorem Lifts.right {P : Program} {f : FuncId} {args : Array Value} {A B B' : HP} {v : Ending} (ga : Good A) (h : Lifts P f args B B' v) : Lifts P f args (Star A B) (Star A B') v := by
  rintro w F ⟨FA, FB, ha, hb, hF, hd⟩
  refine (h w FB hb).mono ?_
  rintro e w' ⟨rfl, hs⟩
  exact ⟨rfl, hs.right ga ha hF hd⟩
theorem Lifts.at {P : Program} {f : FuncId} {args : Array Value} {O O' : HP} {v : Ending} (h : Lifts P f args O O' v) {w0 w : World} (ha : AtW w0 O w) : Calls P f args w fun e w' => e = v ∧ AtW w0 O' w' := by
  obtain ⟨F, h1, h2, h3⟩ := ha
  refine (h w F h1).mono ?_
  rintro e w' ⟨rfl, hs⟩
  exact ⟨rfl, AtW.stp h2 h3 hs⟩
/-- A call that only looks at an object. -/
def Looks (P : Program) (f : FuncId) (args : Array Value) (O : HP) (v : Ending) : Prop := ∀ w F, O w F → Calls P f args w fun e w' => e = v ∧ Below w.heap.size w w'
theorem Looks.left {P : Program} {f : FuncId} {args : Array Value} {A B : HP} {v : Ending} (h : Looks P f args A v) : Looks P f args (Star A B) v := by
  rintro w F ⟨FA, FB, ha, _⟩
  exact h w FA ha
theorem Looks.right {P : Program} {f : FuncId} {args : Array Value} {A B : HP} {v : Ending} (h : Looks P f args B v) : Looks P f args (Star A B) v := by
  rintro w F ⟨FA, FB, _, hb, _⟩
  exact h w FB hb
theorem Looks.at {P : Program} {f : FuncId} {args : Array Value} {O : HP} {v : Ending} (g : Good O) (h : Looks P f args O v) {w0 w : World} (ha : AtW w0 O w) : Calls P f args w fun e w' => e = v ∧ AtW w0 O w' := by
  obtain ⟨F, h1, h2, h3⟩ := ha
  refine (h w F h1).mono ?_
  rintro e w' ⟨rfl, hb⟩
  exact ⟨rfl, AtW.calm g ⟨F, h1, h2, h3⟩ hb⟩
end Go.Proofs.Ytecbnialcnplkaa
