/- Layer 5: a step, done by both. -/
import Derived.Test.YtekmdekcncgkfaaC5o
namespace Go.Proofs.Ytekmdekcncgkfaa
open Go.RowKit
set_option linter.unusedVariables false
/-- What a step makes of a table. -/
noncomputable def stepT (st : TS) (k c v : Int) : TS := if k = 0 then putT st c v else if k = 1 ∨ k = 2 ∨ k = 3 ∨ k = 4 then st else newT st.most
theorem stepT_inv {st : TS} (hI : Inv st) (k c v : Int) : Inv (stepT st k c v) := by
  unfold stepT
  split
  · exact putT_inv hI c v
  · split
    · exact hI
    · exact newT_inv _ hI.m1 hI.m2
/-- Both tables at work: each as st says, in blocks of their own. -/
def Both (w : World) (t r : Nat) (st : TS) (F G : Nat → Prop) : Prop := TabObj w t st F ∧ RefObj w r st G ∧ ∀ b, F b → ¬ G b
/-- What one call has made of both. -/
def BothStep (w : World) (t r : Nat) (F G : Nat → Prop) (st' : TS) (w' : World) : Prop :=
  ∃ F' G', Both w' t r st' F' G' ∧ Chg (fun b => F b ∨ G b) w w' ∧ (∀ b, F' b → F b ∨ w.heap.size ≤ b) ∧ ∀ b, G' b → G b ∨ w.heap.size ≤ b
theorem Both.calm {w w' : World} {t r : Nat} {st : TS} {F G : Nat → Prop} (h : Both w t r st F G) (hb : Below w.heap.size w w') : Both w' t r st F G := ⟨h.1.calm hb, h.2.1.calm hb, h.2.2⟩
theorem Both.refl {w w' : World} {t r : Nat} {st : TS} {F G : Nat → Prop} (h : Both w t r st F G) (hb : Below w.heap.size w w') : BothStep w t r F G st w' :=
  ⟨F, G, h.calm hb, Chg.calm _ hb, fun _ h => .inl h, fun _ h => .inl h⟩
/-- The program's table has changed, then the reference's. -/
theorem both_step {w w0 w1 w2 : World} {t r : Nat} {st st' : TS} {F G F' G' : Nat → Prop} (h : Both w t r st F G) (h0 : Below w.heap.size w w0) (hT : TabObj w1 t st' F') (hc1 : Chg F w0 w1) (hf1 : ∀ b, F' b → F b ∨ w0.heap.size ≤ b)
    (hR : RefObj w2 r st' G') (hc2 : Chg G w1 w2) (hf2 : ∀ b, G' b → G b ∨ w1.heap.size ≤ b) : BothStep w t r F G st' w2 := by
  have z0 := h0.size
  have z1 := hc1.size
  have z2 := hc2.size
  have hFG' : ∀ b, F' b → ¬ G b := by
    intro b hb hg
    rcases hf1 b hb with hF | hn
    · exact h.2.2 b hF hg
    · have := h.2.1.lt hg; omega
  refine ⟨F', G', ⟨hT.chg hc2 hFG', hR, fun b hb hg => ?_⟩, ?_, fun b hb => ?_, fun b hb => ?_⟩
  · rcases hf2 b hg with hG | hn
    · exact hFG' b hb hG
    · have := hT.lt hb; omega
  · exact ((Chg.calm (fun b => F b ∨ G b) h0).trans hc1 (fun _ h => h) (fun _ _ h => .inl h)).trans hc2 (fun _ h => h) (fun _ _ h => .inr h)
  · exact (hf1 b hb).imp id (fun h => by omega)
  · exact (hf2 b hb).imp id (fun h => by omega)
theorem RefObj.after {w w0 w1 : World} {t r : Nat} {st st' : TS} {F G : Nat → Prop} (h : Both w t r st F G) (h0 : Below w.heap.size w w0) (hc1 : Chg F w0 w1) : RefObj w1 r st G :=
  (h.2.1.calm h0).chg hc1 (fun b hb hF => h.2.2 b hF hb)
theorem box3 {w : World} {a b c : Int} {T : TypeId} {n : Nat} (h : w.heap[n]? = some (.cells #[.int .i64 a, .int .i64 b, .int .i64 c] T)) :
    w.cell? ⟨n, 0, none⟩ = some (.int .i64 a) ∧ w.cell? ⟨n, 1, none⟩ = some (.int .i64 b) ∧ w.cell? ⟨n, 2, none⟩ = some (.int .i64 c) :=
  ⟨by simp [World.cell?, h], by simp [World.cell?, h], by simp [World.cell?, h]⟩
end Go.Proofs.Ytekmdekcncgkfaa
