/- Objects that lie apart: steps on one leave the others. Of whatever program. -/
import Derived.Test.YtojkeahffabifaaM1
import Derived.WalkKit
namespace Go.Proofs.Ytojkeahffabifaa
open Go.RowKit
abbrev HP := World → (Nat → Prop) → Prop
structure Good (O : HP) : Prop where
  chg : ∀ {w w' : World} {F S : Nat → Prop}, O w F → Chg S w w' → (∀ b, F b → ¬ S b) → O w' F
  lt : ∀ {w : World} {F : Nat → Prop} {b : Nat}, O w F → F b → b < w.heap.size
/-- Two objects that lie apart. -/
def Star (A B : HP) : HP := fun w F => ∃ FA FB, A w FA ∧ B w FB ∧ (∀ b, F b ↔ FA b ∨ FB b) ∧ ∀ b, FA b → ¬ FB b
/-- A step that turns an object of the blocks F into one as O says. -/
def Stp (w w' : World) (F : Nat → Prop) (O : HP) : Prop := ∃ F', O w' F' ∧ Chg F w w' ∧ ∀ b, F' b → F b ∨ w.heap.size ≤ b
theorem Good.calm {O : HP} (g : Good O) {w w' : World} {F : Nat → Prop} (h : O w F) (hb : Below w.heap.size w w') : O w' F := g.chg (S := fun _ => False) h (Chg.calm _ hb) fun _ _ h => h
theorem Good.star {A B : HP} (ga : Good A) (gb : Good B) : Good (Star A B) where
  chg := by
    rintro w w' F S ⟨FA, FB, ha, hb, hF, hd⟩ hc hS
    exact ⟨FA, FB, ga.chg ha hc (fun b h => hS b ((hF b).2 (.inl h))), gb.chg hb hc (fun b h => hS b ((hF b).2 (.inr h))), hF, hd⟩
  lt := by
    rintro w F b ⟨FA, FB, ha, hb, hF, hd⟩ h
    rcases (hF b).1 h with h | h
    · exact ga.lt ha h
    · exact gb.lt hb h
theorem Stp.calm {O : HP} (g : Good O) {w w' : World} {F : Nat → Prop} (h : O w F) (hb : Below w.heap.size w w') : Stp w w' F O := ⟨F, g.calm h hb, Chg.calm F hb, fun _ h => .inl h⟩
theorem Stp.refl {O : HP} {w : World} {F : Nat → Prop} (h : O w F) : Stp w w F O := ⟨F, h, Chg.refl _ _, fun _ h => .inl h⟩
theorem Stp.trans {O P : HP} {w w1 w2 : World} {F : Nat → Prop} (h : Stp w w1 F O) (k : ∀ F1, O w1 F1 → Stp w1 w2 F1 P) : Stp w w2 F P := by
  obtain ⟨F1, h1, c1, n1⟩ := h
  obtain ⟨F2, h2, c2, n2⟩ := k F1 h1
  have z := c1.size
  refine ⟨F2, h2, c1.trans c2 (fun _ h => h) (fun b hb h => ?_), fun b h => ?_⟩
  · exact (n1 b h).resolve_right (by omega)
  · rcases n2 b h with h | h
    · exact n1 b h
    · exact .inr (by omega)
theorem Stp.preC {O : HP} {w w1 w2 : World} {F : Nat → Prop} (hc : Chg F w w1) (h : Stp w1 w2 F O) : Stp w w2 F O := by
  obtain ⟨F1, h1, c, n⟩ := h
  have z := hc.size
  exact ⟨F1, h1, hc.trans c (fun _ h => h) (fun _ _ h => h), fun b h => (n b h).imp id (fun h => by omega)⟩
theorem Stp.pre {O : HP} {w w1 w2 : World} {F : Nat → Prop} (hb : Below w.heap.size w w1) (h : Stp w1 w2 F O) : Stp w w2 F O := by
  obtain ⟨F1, h1, c, n⟩ := h
  have z := hb.size
  exact ⟨F1, h1, (Chg.calm F hb).trans c (fun _ h => h) (fun _ _ h => h), fun b h => (n b h).imp id (fun h => by omega)⟩
theorem Stp.left {B A' : HP} (gb : Good B) {w w' : World} {F FA FB : Nat → Prop} (hs : Stp w w' FA A') (hb : B w FB) (hF : ∀ b, F b ↔ FA b ∨ FB b) (hd : ∀ b, FA b → ¬ FB b) : Stp w w' F (Star A' B) := by
  obtain ⟨F1, h1, c1, n1⟩ := hs
  refine ⟨fun b => F1 b ∨ FB b, ⟨F1, FB, h1, gb.chg hb c1 (fun b h h2 => hd b h2 h), fun b => Iff.rfl, fun b h h2 => ?_⟩, c1.mono (fun b h => (hF b).2 (.inl h)), fun b h => ?_⟩
  · rcases n1 b h with h | h
    · exact hd b h h2
    · have := gb.lt hb h2; omega
  · rcases h with h | h
    · exact (n1 b h).imp (fun h => (hF b).2 (.inl h)) id
    · exact .inl ((hF b).2 (.inr h))
theorem Star.comm {A B : HP} {w : World} {F : Nat → Prop} (h : Star A B w F) : Star B A w F := by
  obtain ⟨FA, FB, ha, hb, hF, hd⟩ := h
  exact ⟨FB, FA, hb, ha, fun b => (hF b).trans Or.comm, fun b h h2 => hd b h2 h⟩
theorem Stp.imp {A B : HP} {w w' : World} {F : Nat → Prop} (h : Stp w w' F A) (k : ∀ F, A w' F → B w' F) : Stp w w' F B := by
  obtain ⟨F1, h1, h2⟩ := h
  exact ⟨F1, k F1 h1, h2⟩
theorem Stp.right {A B' : HP} (ga : Good A) {w w' : World} {F FA FB : Nat → Prop} (hs : Stp w w' FB B') (ha : A w FA) (hF : ∀ b, F b ↔ FA b ∨ FB b) (hd : ∀ b, FA b → ¬ FB b) : Stp w w' F (Star A B') :=
  (Stp.left ga hs ha (fun b => (hF b).trans Or.comm) (fun b h h2 => hd b h2 h)).imp fun _ h => h.comm
/-- An object that was made behind w0, with nothing else changed. -/
def AtW (w0 : World) (O : HP) (wr : World) : Prop := ∃ F, O wr F ∧ Below w0.heap.size w0 wr ∧ ∀ b, F b → w0.heap.size ≤ b
theorem AtW.below {w0 wr : World} {O : HP} (h : AtW w0 O wr) : Below w0.heap.size w0 wr := by
  obtain ⟨_, _, h, _⟩ := h
  exact h
theorem AtW.calm {w0 wr w' : World} {O : HP} (g : Good O) (h : AtW w0 O wr) (hb : Below wr.heap.size wr w') : AtW w0 O w' := by
  obtain ⟨F, h1, h2, h3⟩ := h
  exact ⟨F, g.calm h1 hb, h2.trans (hb.mono h2.size), h3⟩
theorem AtW.imp {w0 wr : World} {O P : HP} (h : AtW w0 O wr) (k : ∀ F, O wr F → P wr F) : AtW w0 P wr := by
  obtain ⟨F, h1, h2, h3⟩ := h
  exact ⟨F, k F h1, h2, h3⟩
theorem AtW.stp {w0 wr w' : World} {O : HP} {F : Nat → Prop} (h2 : Below w0.heap.size w0 wr) (h3 : ∀ b, F b → w0.heap.size ≤ b) (hs : Stp wr w' F O) : AtW w0 O w' := by
  obtain ⟨F1, h1, c, n⟩ := hs
  have z := h2.size
  exact ⟨F1, h1, h2.trans (c.below h3 z), fun b h => (n b h).elim (h3 b) (fun h => by omega)⟩
theorem AtW.new {w0 w1 w2 : World} {A B : HP} (ga : Good A) (h : AtW w0 A w1) (k : AtW w1 B w2) : AtW w0 (Star A B) w2 := by
  obtain ⟨FA, h1, h2, h3⟩ := h
  obtain ⟨FB, k1, k2, k3⟩ := k
  have z := h2.size
  refine ⟨fun b => FA b ∨ FB b, ⟨FA, FB, ga.calm h1 k2, k1, fun _ => Iff.rfl, fun b h h' => ?_⟩, h2.trans (k2.mono z), fun b h => ?_⟩
  · have := ga.lt h1 h
    have := k3 b h'
    omega
  · rcases h with h | h
    · exact h3 b h
    · have := k3 b h; omega
/-- A call that turns an object into another one, and answers v. -/
def Lifts (P : Program) (f : FuncId) (args : Array Value) (O O' : HP) (v : Ending) : Prop := ∀ w F, O w F → Calls P f args w fun e w' => e = v ∧ Stp w w' F O'
theorem Lifts.left {P : Program} {f : FuncId} {args : Array Value} {A A' B : HP} {v : Ending} (gb : Good B) (h : Lifts P f args A A' v) : Lifts P f args (Star A B) (Star A' B) v := by
  rintro w F ⟨FA, FB, ha, hb, hF, hd⟩
  refine (h w FA ha).mono ?_
  rintro e w' ⟨rfl, hs⟩
  exact ⟨rfl, hs.left gb hb hF hd⟩
theorem Lifts.right {P : Program} {f : FuncId} {args : Array Value} {A B B' : HP} {v : Ending} (ga : Good A) (h : Lifts P f args B B' v) : Lifts P f args (Star A B) (Star A B') v := by
  rintro w F ⟨FA, FB, ha, hb, hF, hd⟩
  refine (h w FB hb).mono ?_
  rintro e w' ⟨rfl, hs⟩
  exact ⟨rfl, hs.right ga ha hF hd⟩
theorem Lifts.at {P : Program} {f : FuncId} {args : Array Value} {O O' : HP} {v : Ending} (h : Lifts P f args O O' v) {w0 w : World} (ha : AtW w0 O w) : Calls P f args w fun e w' => e = v ∧ AtW w0 O' w' := by
  obtain ⟨F, h1, h2, h3⟩ := ha
  refine (h w F h1).mono ?_
  rintro e w' ⟨rfl, hs⟩
  exact ⟨rfl, AtW.stp h2 h3 hs⟩
/-- A call that only looks at an object. -/
def Looks (P : Program) (f : FuncId) (args : Array Value) (O : HP) (v : Ending) : Prop := ∀ w F, O w F → Calls P f args w fun e w' => e = v ∧ Below w.heap.size w w'
theorem Looks.left {P : Program} {f : FuncId} {args : Array Value} {A B : HP} {v : Ending} (h : Looks P f args A v) : Looks P f args (Star A B) v := by
  rintro w F ⟨FA, FB, ha, _⟩
  exact h w FA ha
theorem Looks.right {P : Program} {f : FuncId} {args : Array Value} {A B : HP} {v : Ending} (h : Looks P f args B v) : Looks P f args (Star A B) v := by
  rintro w F ⟨FA, FB, _, hb, _⟩
  exact h w FB hb
theorem Looks.at {P : Program} {f : FuncId} {args : Array Value} {O : HP} {v : Ending} (g : Good O) (h : Looks P f args O v) {w0 w : World} (ha : AtW w0 O w) : Calls P f args w fun e w' => e = v ∧ AtW w0 O w' := by
  obtain ⟨F, h1, h2, h3⟩ := ha
  refine (h w F h1).mono ?_
  rintro e w' ⟨rfl, hb⟩
  exact ⟨rfl, AtW.calm g ⟨F, h1, h2, h3⟩ hb⟩
end Go.Proofs.Ytojkeahffabifaa
namespace Go.Proofs.Ytojkeahffabifaa
open Go.RowKit
theorem Stp.comp {P : HP} {w w1 w2 : World} {F F1 : Nat → Prop} (c1 : Chg F w w1) (n1 : ∀ b, F1 b → F b ∨ w.heap.size ≤ b) (k : Stp w1 w2 F1 P) : Stp w w2 F P := by
  obtain ⟨F2, h2, c2, n2⟩ := k
  have z := c1.size
  refine ⟨F2, h2, c1.trans c2 (fun _ h => h) (fun b hb h => ?_), fun b h => ?_⟩
  · exact (n1 b h).resolve_right (by omega)
  · rcases n2 b h with h | h
    · exact n1 b h
    · exact .inr (by omega)
/-- A block of cells. -/
def BlkH (p : Nat) (cs : Array Value) (T : TypeId) : HP := fun w F => w.heap[p]? = some (.cells cs T) ∧ ∀ b, F b ↔ b = p
theorem BlkH.good (p : Nat) (cs : Array Value) (T : TypeId) : Good (BlkH p cs T) where
  chg := by
    rintro w w' F S ⟨h, hF⟩ hc hS
    exact ⟨(hc.block p (heap_lt h) (hS p ((hF p).2 rfl))).trans h, hF⟩
  lt := by
    rintro w F b ⟨h, hF⟩ hb
    obtain rfl := (hF b).1 hb
    exact heap_lt h
/-- An object is there. -/
def Has (O : HP) (w : World) : Prop := ∃ F, O w F
theorem Has.left {A B : HP} {w : World} (h : Has (Star A B) w) : Has A w := by
  obtain ⟨F, FA, FB, ha, hb, _⟩ := h
  exact ⟨FA, ha⟩
theorem Has.right {A B : HP} {w : World} (h : Has (Star A B) w) : Has B w := by
  obtain ⟨F, FA, FB, ha, hb, _⟩ := h
  exact ⟨FB, hb⟩
theorem Has.blk {p : Nat} {cs : Array Value} {T : TypeId} {w : World} (h : Has (BlkH p cs T) w) : w.heap[p]? = some (.cells cs T) := by
  obtain ⟨F, h, _⟩ := h
  exact h
theorem Stp.has {O : HP} {w w1 : World} {F : Nat → Prop} (h : Stp w w1 F O) : Has O w1 := by
  obtain ⟨F1, h1, _⟩ := h
  exact ⟨F1, h1⟩
/-- A step of the world that turns O into O'. -/
def Moves (O O' : HP) (w w' : World) : Prop := ∀ F, O w F → Stp w w' F O'
theorem Moves.left {A A' B : HP} {w w' : World} (gb : Good B) (h : Moves A A' w w') : Moves (Star A B) (Star A' B) w w' := by
  rintro F ⟨FA, FB, ha, hb, hF, hd⟩
  exact (h FA ha).left gb hb hF hd
theorem Moves.right {A B B' : HP} {w w' : World} (ga : Good A) (h : Moves B B' w w') : Moves (Star A B) (Star A B') w w' := by
  rintro F ⟨FA, FB, ha, hb, hF, hd⟩
  exact (h FB hb).right ga ha hF hd
theorem Stp.move {O O' : HP} {w w1 w2 : World} {F : Nat → Prop} (h : Stp w w1 F O) (k : Moves O O' w1 w2) : Stp w w2 F O' := h.trans k
theorem BlkH.set {p : Nat} {cs : Array Value} {T : TypeId} {w : World} (i : Nat) (v : Value) : Moves (BlkH p cs T) (BlkH p (cs.setIfInBounds i v) T) w (w.setCell ⟨p, i, none⟩ v) := by
  rintro F ⟨h, hF⟩
  exact ⟨F, ⟨heapSet_eq _ _ _ _ _ _ _ h, hF⟩, (Chg.refl F w).set _ _ (.inr ((hF p).2 rfl)), fun _ h => .inl h⟩
theorem Stp.below {O : HP} (g : Good O) {w w1 w2 : World} {F : Nat → Prop} (h : Stp w w1 F O) (hb : Below w1.heap.size w1 w2) : Stp w w2 F O := h.trans fun _ h1 => Stp.calm g h1 hb
theorem Stp.drew {O : HP} (g : Good O) {w w1 : World} {F : Nat → Prop} (h : Stp w w1 F O) : Stp w w1.drew F O := h.below g (Below.refl _ _).drew
theorem Stp.box {O : HP} (g : Good O) {w w1 : World} {F : Nat → Prop} (h : Stp w w1 F O) (cs : Array Value) (T : TypeId) : Stp w (w1.alloc (.cells cs T)) F (Star O (BlkH w1.heap.size cs T)) :=
  h.trans fun F1 h1 => ⟨fun b => F1 b ∨ b = w1.heap.size, ⟨F1, fun b => b = w1.heap.size, g.calm h1 ((Below.refl _ _).alloc (Nat.le_refl _) _), ⟨heapAlloc _ _, fun _ => Iff.rfl⟩, fun _ => Iff.rfl, fun b hb e => by have := g.lt h1 hb; omega⟩, Chg.alloc _ _ _, fun b hb => hb.imp id (fun e => by omega)⟩
theorem Stp.fst {A B : HP} {w w1 : World} {F : Nat → Prop} (h : Stp w w1 F (Star A B)) : Stp w w1 F A := by
  obtain ⟨F1, ⟨FA, FB, ha, hb, hF, hd⟩, hc, hn⟩ := h
  exact ⟨FA, ha, hc, fun b hb => hn b ((hF b).2 (.inl hb))⟩
theorem Stp.lift {P : Program} {f : FuncId} {args : Array Value} {O O' : HP} {v : Ending} (h : Lifts P f args O O' v) {w w1 : World} {F : Nat → Prop} (hs : Stp w w1 F O) : Calls P f args w1 fun e w' => e = v ∧ Stp w w' F O' := by
  obtain ⟨F1, h1, h2, h3⟩ := hs
  refine (h w1 F1 h1).mono ?_
  rintro e w' ⟨rfl, k⟩
  exact ⟨rfl, Stp.comp h2 h3 k⟩
theorem Stp.look {P : Program} {f : FuncId} {args : Array Value} {O : HP} {v : Ending} (g : Good O) (h : Looks P f args O v) {w w1 : World} {F : Nat → Prop} (hs : Stp w w1 F O) : Calls P f args w1 fun e w' => e = v ∧ Stp w w' F O := by
  obtain ⟨F1, h1⟩ := hs.has
  refine (h w1 F1 h1).mono ?_
  rintro e w' ⟨rfl, hb⟩
  exact ⟨rfl, hs.below g hb⟩
end Go.Proofs.Ytojkeahffabifaa
namespace Go.Proofs.Ytojkeahffabifaa
open Go.RowKit
/-- A struct at y (f tells its cells by the list's value), and the list's numbers. -/
def LstH (y : Nat) (f : Value → Array Value) (T E : TypeId) (L : List Int) : HP := fun w F =>
  ∃ lv, w.heap[y]? = some (.cells (f lv) T) ∧ w.ownsRow 0 E 1 lv L.length (L.map (Value.int .i64)) ∧ lv.ownBlock ≠ some y ∧ ∀ b, F b ↔ b = y ∨ lv.ownBlock = some b
theorem LstH.good (y : Nat) (f : Value → Array Value) (T E : TypeId) (L : List Int) : Good (LstH y f T E L) where
  chg := by
    rintro w w' F S ⟨lv, h1, h2, h3, h4⟩ hc hS
    exact ⟨lv, (hc.block y (heap_lt h1) (hS y ((h4 y).2 (.inl rfl)))).trans h1, own_chg h2 hc (fun b hb => hS b ((h4 b).2 (.inr hb))), h3, h4⟩
  lt := by
    rintro w F b ⟨lv, h1, h2, h3, h4⟩ h
    rcases (h4 b).1 h with rfl | h
    · exact heap_lt h1
    · exact (h2.lt b h).2
/-- The list has grown, and the struct was told. -/
theorem lst_grown {w w2 : World} {F : Nat → Prop} {y i : Nat} {f : Value → Array Value} {T E : TypeId} {L' : List Int} {lv lv' : Value} (h1 : w.heap[y]? = some (.cells (f lv) T)) (h3 : lv.ownBlock ≠ some y) (h4 : ∀ b, F b ↔ b = y ∨ lv.ownBlock = some b)
    (hf : (f lv).setIfInBounds i lv' = f lv') (ho : w2.ownsRow 0 E 1 lv' L'.length (L'.map (Value.int .i64))) (hc : Chg (fun b => lv.ownBlock = some b) w w2) (hw : lv'.ownBlock = lv.ownBlock ∨ ∃ b, lv'.ownBlock = some b ∧ w.heap.size ≤ b) :
    Stp w (w2.setCell ⟨y, i, none⟩ lv') F (LstH y f T E L') := by
  have hr := heap_lt h1
  have hn' : lv'.ownBlock ≠ some y := by
    intro e
    rcases hw with h | ⟨b', h, hb'⟩
    · exact h3 (h ▸ e)
    · rw [h] at e
      simp at e; omega
  have hm := (hc.block y hr (fun e => h3 e)).trans h1
  refine ⟨fun b => b = y ∨ lv'.ownBlock = some b, ⟨lv', (heapSet_eq _ _ _ _ _ _ _ hm).trans (by rw [hf]), ?_, hn', fun b => Iff.rfl⟩, ?_, ?_⟩
  · exact own_chg ho (Chg.setCell _ _ _) (fun b hb (e : b = y) => hn' (by rw [hb, e]))
  · exact (hc.mono (fun b hb => (h4 b).2 (.inr hb))).set _ _ (.inr ((h4 y).2 (.inl rfl)))
  · rintro b (h | h)
    · exact .inl ((h4 b).2 (.inl h))
    · rcases hw with e | ⟨b', e, hb'⟩
      · exact .inl ((h4 b).2 (.inr (e ▸ h)))
      · rw [e] at h
        simp at h; right; omega
theorem int_at {w : World} {lv : Value} {E : TypeId} {L : List Int} (h : w.ownsRow 0 E 1 lv L.length (L.map (Value.int .i64))) {k : Nat} {x : Int} (hx : L[k]? = some x) : ∃ g c, lv = .slice (some ⟨g, 0, none⟩) L.length c ∧ w.cell? ⟨g, k, none⟩ = some (.int .i64 x) := by
  have hk : k < L.length := (List.getElem?_eq_some_iff.1 hx).1
  obtain ⟨g, c, hv, _, _, hc, _, _⟩ := own_parts h (by omega)
  exact ⟨g, c, hv, (hc k (by omega)).trans (by rw [List.getElem?_map, hx]; rfl)⟩
end Go.Proofs.Ytojkeahffabifaa
