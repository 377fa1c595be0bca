/- Layer 7: the walk of BeginPlays. -/
import Derived.Test.YtkhppganhhmpeaaW7b
import Derived.Test.YtkhppganhhmpeaaC7h
namespace Go.Proofs.Ytkhppganhhmpeaa
open Go.RowKit
set_option linter.unusedVariables false
theorem Star.assoc {A B C D : HP} {w : World} {F : Nat → Prop} (h : Star (Star (Star A B) C) D w F) : Star (Star A B) (Star C D) w F := by
  obtain ⟨F1, FD, ⟨FAB, FC, hab, hc, h1, h2⟩, hd, h3, h4⟩ := h
  refine ⟨FAB, fun b => FC b ∨ FD b, hab, ⟨FC, FD, hc, hd, fun _ => Iff.rfl, fun b hb => h4 b ((h1 b).2 (.inr hb))⟩, fun b => ?_, fun b hb h => ?_⟩
  · rw [h3 b, h1 b, or_assoc]
  · rcases h with h | h
    · exact h2 b hb h
    · exact h4 b ((h1 b).2 (.inl hb)) h
theorem Has.mid {A B C D : HP} {w : World} (h : Has (Star (Star A B) (Star C D)) w) : Has (Star B D) w := by
  obtain ⟨F, F1, F2, ⟨FA, FB, ha, hb, h1, h2⟩, ⟨FC, FD, hc, hd, h3, h4⟩, h5, h6⟩ := h
  exact ⟨fun b => FB b ∨ FD b, FB, FD, hb, hd, fun _ => Iff.rfl, fun b k1 k2 => h6 b ((h1 b).2 (.inr k1)) ((h3 b).2 (.inr k2))⟩
theorem LstH.new {w : World} (cs : Array Value) (f : Value → Array Value) (T E : TypeId) (hf : f (.slice none 0 0) = cs) : AtW w (LstH w.heap.size f T E []) (w.alloc (.cells cs T)) :=
  ⟨fun b => b = w.heap.size, ⟨.slice none 0 0, by rw [hf]; exact heapAlloc _ _, World.ownsRow_nil _ _ _ _, by simp [Value.ownBlock], fun b => by simp [Value.ownBlock]⟩, (Below.refl _ _).alloc (Nat.le_refl _) _, fun b h => by omega⟩
/-- The two machines beside their memories. -/
abbrev Four (p x r y ring size : Nat) (l l' : List Acc) (st seen sk : Int) (L : List Int) : HP := Star (BStep p x ring 3 l size st seen sk) (RBStep r y ring 3 l' size L)
theorem Four.good (p x r y ring size : Nat) (l l' : List Acc) (st seen sk : Int) (L : List Int) : Good (Four p x r y ring size l l' st seen sk L) := (BStep.good _ _ _ _ _ _ _ _ _).star (RBStep.good _ _ _ _ _ _ _)
/-- The loop's invariant. -/
def PlaysAt (w : World) (p x r y ring size k : Nat) (wr : World) : Prop := ∃ l st seen sk L, AtW w (Four p x r y ring size l l st seen sk L) wr ∧ l.length ≤ k ∧ OkW l ∧ BRel size st seen sk L ∧ ∀ z ∈ L, I64 z
theorem PlaysAt.below {w wr : World} {p x r y ring size k : Nat} (h : PlaysAt w p x r y ring size k wr) : Below w.heap.size w wr := by
  obtain ⟨l, st, seen, sk, L, h1, _⟩ := h
  exact h1.below
theorem PlaysAt.calm {w wr w' : World} {p x r y ring size k : Nat} (h : PlaysAt w p x r y ring size k wr) (hb : Below wr.heap.size wr w') : PlaysAt w p x r y ring size k w' := by
  obtain ⟨l, st, seen, sk, L, h1, h2⟩ := h
  exact ⟨l, st, seen, sk, L, h1.calm (Four.good _ _ _ _ _ _ _ _ _ _ _ _) hb, h2⟩
theorem PlaysAt.up {w wr : World} {p x r y ring size k : Nat} (h : PlaysAt w p x r y ring size k wr) : PlaysAt w p x r y ring size (k + 1) wr := by
  obtain ⟨l, st, seen, sk, L, h1, h2, h3⟩ := h
  exact ⟨l, st, seen, sk, L, h1, by omega, h3⟩
theorem BRel.len {size : Nat} {st seen sk : Int} {L : List Int} (h : BRel size st seen sk L) : L.length ≤ size + 1 := by
  rcases h with ⟨rfl, rfl, rfl, rfl⟩ | ⟨rfl, hs, rfl, h1, h2, rfl, h3, h4⟩ | ⟨rfl, _, h, _⟩
  · simp
  · simp; omega
  · exact h
theorem BRel.rng {size : Nat} {st seen sk : Int} {L : List Int} (h : BRel size st seen sk L) (h2 : st ≠ 2) (hL : ∀ z ∈ L, I64 z) : BRng st seen sk := by
  rcases h with ⟨rfl, rfl, rfl, rfl⟩ | ⟨rfl, hs, rfl, h1, h2, rfl, h3, h4⟩ | ⟨rfl, _⟩
  · exact .inl rfl
  · have := hL seen (List.mem_cons_self ..)
    exact .inr ⟨rfl, h3, by omega, this.2⟩
  · exact absurd rfl h2
theorem plays_starts {w wr : World} {p x r y ring size k : Nat} (hs1 : 1 ≤ size) (hs2 : size ≤ 16) (h : PlaysAt w p x r y ring size k wr) :
    Calls Try.prog 21 #[.pointer (some ⟨x, 0, none⟩), .pointer (some ⟨y, 0, none⟩)] wr fun e w' => e = .returned (.bool true) ∧ PlaysAt w p x r y ring size k w' := by
  have HP := Lib.hid h
  obtain ⟨l, st, seen, sk, L, h1, h2, h3, h4, h5⟩ := h
  obtain ⟨F, hF⟩ := h1.has.mid
  refine (starts_any x y size hs1 hs2 st seen sk L h5 (by have := h4.len; omega) h4 wr F hF).mono ?_
  rintro e w' ⟨rfl, hb⟩
  exact ⟨rfl, HP.out.calm hb⟩
/-- Behind the program's store, ahead of the reference's. -/
def StoreMid (w : World) (p x r y ring size k : Nat) (th a b c v : Int) (wr : World) : Prop := ∃ l st seen sk L, AtW w (Four p x r y ring size (putL ring 3 l th a b c v) l st seen sk L) wr ∧ l.length ≤ k ∧ OkW l ∧ BRel size st seen sk L ∧ ∀ z ∈ L, I64 z
theorem plays_store1 {w wr : World} {p x r y ring size k : Nat} (h : PlaysAt w p x r y ring size k wr) (hk : k ≤ 2999999999000) (th a b c v : Int) :
    Calls Try.prog 12 #[.pointer (some ⟨p, 0, none⟩), .int .i64 th, .agg #[.int .i64 a, .int .i64 b, .int .i64 c], .int .i64 v] wr fun e w' => (∃ z, e = .returned (.int .i64 z)) ∧ StoreMid w p x r y ring size k th a b c v w' := by
  obtain ⟨l, st, seen, sk, L, h1, h2, h3⟩ := h
  refine ((Lifts.left (RBStep.good _ _ _ _ _ _ _) (Lifts.left (BlkH.good _ _ _) (store_any p ring 3 l (by omega) th a b c v))).at h1).mono ?_
  rintro e w' ⟨rfl, h⟩
  exact ⟨⟨_, rfl⟩, l, st, seen, sk, L, h, h2, h3⟩
theorem StoreMid.below {w wr : World} {p x r y ring size k : Nat} {th a b c v : Int} (h : StoreMid w p x r y ring size k th a b c v wr) : Below w.heap.size w wr := by
  obtain ⟨l, st, seen, sk, L, h1, _⟩ := h
  exact h1.below
theorem StoreMid.calm {w wr w' : World} {p x r y ring size k : Nat} {th a b c v : Int} (h : StoreMid w p x r y ring size k th a b c v wr) (hb : Below wr.heap.size wr w') : StoreMid w p x r y ring size k th a b c v w' := by
  obtain ⟨l, st, seen, sk, L, h1, h2⟩ := h
  exact ⟨l, st, seen, sk, L, h1.calm (Four.good _ _ _ _ _ _ _ _ _ _ _ _) hb, h2⟩
theorem plays_store2 {w wr : World} {p x r y ring size k : Nat} {th a b c v : Int} (h : StoreMid w p x r y ring size k th a b c v wr) (hk : k ≤ 2999999999000) (hv : I64 v) :
    Calls Try.prog 19 #[.pointer (some ⟨r, 0, none⟩), .int .i64 th, .agg #[.int .i64 a, .int .i64 b, .int .i64 c], .int .i64 v] wr fun e w' => (∃ z, e = .returned (.int .i64 z)) ∧ PlaysAt w p x r y ring size (k + 1) w' := by
  obtain ⟨l, st, seen, sk, L, h1, h2, h3, h4⟩ := h
  refine ((Lifts.right (BStep.good _ _ _ _ _ _ _ _ _) (Lifts.left (LstH.good _ _ _ _ _) (rstore_any r ring 3 l (by omega) th a b c v))).at h1).mono ?_
  rintro e w' ⟨rfl, h⟩
  have := putL_len ring 3 l th a b c v
  exact ⟨⟨_, rfl⟩, _, _, _, _, _, h, by omega, okW_put h3 th a b c v hv, h4⟩
/-- Behind the program's step, ahead of the reference's. -/
def StepMid (w : World) (p x r y ring size k : Nat) (th kd : Int) (wr : World) : Prop := ∃ l st seen sk L, l.length ≤ k ∧ OkW l ∧ BRel size st seen sk L ∧ (∀ z ∈ L, I64 z) ∧
  ((kd = 0 ∧ (ring ≠ size ∨ st = 2) ∧ AtW w (Four p x r y ring size l l st seen sk L) wr) ∨
   (ring = size ∧ st ≠ 2 ∧ ∃ a b c v st' seen' sk', addrB size st sk = (a, b, c) ∧ wordOf l a b c = v ∧ stepB size st seen sk v = (st', seen', sk', kd) ∧ (kd = 2 ∨ kd = 3) ∧ AtW w (Four p x r y ring size (l ++ [ldAcc th a b c v]) l st' seen' sk' L) wr))
theorem StepMid.calm {w wr w' : World} {p x r y ring size k : Nat} {th kd : Int} (h : StepMid w p x r y ring size k th kd wr) (hb : Below wr.heap.size wr w') : StepMid w p x r y ring size k th kd w' := by
  obtain ⟨l, st, seen, sk, L, h1, h2, h3, h4, h5⟩ := h
  refine ⟨l, st, seen, sk, L, h1, h2, h3, h4, ?_⟩
  rcases h5 with ⟨g1, g2, g3⟩ | ⟨g1, g2, a, b, c, v, st', seen', sk', g3, g4, g5, g6, g7⟩
  · exact .inl ⟨g1, g2, g3.calm (Four.good _ _ _ _ _ _ _ _ _ _ _ _) hb⟩
  · exact .inr ⟨g1, g2, a, b, c, v, st', seen', sk', g3, g4, g5, g6, g7.calm (Four.good _ _ _ _ _ _ _ _ _ _ _ _) hb⟩
theorem StepMid.below {w wr : World} {p x r y ring size k : Nat} {th kd : Int} (h : StepMid w p x r y ring size k th kd wr) : Below w.heap.size w wr := by
  obtain ⟨l, st, seen, sk, L, h1, h2, h3, h4, h5⟩ := h
  rcases h5 with ⟨g1, g2, g3⟩ | ⟨g1, g2, a, b, c, v, st', seen', sk', g3, g4, g5, g6, g7⟩
  · exact g3.below
  · exact g7.below
theorem plays_step1 {w wr : World} {p x r y ring size k : Nat} (hs1 : 1 ≤ size) (hs2 : size ≤ 16) (h : PlaysAt w p x r y ring size k wr) (hk : k ≤ 2999999999000) (th : Int) :
    Calls Try.prog 13 #[.pointer (some ⟨x, 0, none⟩), .pointer (some ⟨p, 0, none⟩), .int .i64 th] wr fun e w' => ∃ kd b, e = .returned (ansV kd 0 0 b) ∧ ((kd = 0 ∧ b = false) ∨ (kd = 2 ∧ b = true) ∨ (kd = 3 ∧ b = true)) ∧ StepMid w p x r y ring size k th kd w' := by
  obtain ⟨l, st, seen, sk, L, h1, h2, h3, h4, h5⟩ := h
  by_cases hn : ring ≠ size ∨ st = 2
  · refine ((Looks.left (B := RBStep r y ring 3 l size L) (begStep_none p x ring 3 l size st seen sk th hn)).at (Four.good _ _ _ _ _ _ _ _ _ _ _ _) h1).mono ?_
    rintro e w' ⟨rfl, h⟩
    exact ⟨0, false, rfl, .inl ⟨rfl, rfl⟩, l, st, seen, sk, L, h2, h3, h4, h5, .inl ⟨rfl, hn, h⟩⟩
  · have hr : ring = size := Classical.byContradiction fun h => hn (.inl h)
    have hst : st ≠ 2 := fun h => hn (.inr h)
    subst hr
    obtain ⟨⟨a, b, c⟩, ha⟩ : ∃ t, addrB ring st sk = t := ⟨_, rfl⟩
    obtain ⟨v, hv⟩ : ∃ v, wordOf l a b c = v := ⟨_, rfl⟩
    obtain ⟨⟨st', seen', sk', kd⟩, hs⟩ : ∃ t, stepB ring st seen sk v = t := ⟨_, rfl⟩
    have hkd : kd = 2 ∨ kd = 3 := by
      have := (h4.step hs1 hst v).2
      rw [hs] at this
      simp only at this
      split at this
      · exact .inr this
      · exact .inl this
    refine ((Lifts.left (RBStep.good _ _ _ _ _ _ _) (begStep_go p x ring 3 l (by omega) st seen sk th hs1 hs2 (h4.rng hst h5) a b c ha v hv st' seen' sk' kd hs)).at h1).mono ?_
    rintro e w' ⟨rfl, h⟩
    refine ⟨kd, true, rfl, ?_, l, st, seen, sk, L, h2, h3, h4, h5, .inr ⟨rfl, hst, a, b, c, v, st', seen', sk', ha, hv, hs, hkd, h⟩⟩
    rcases hkd with h | h
    · exact .inr (.inl ⟨h, rfl⟩)
    · exact .inr (.inr ⟨h, rfl⟩)
theorem addrB_isA {size : Nat} (h1 : 1 ≤ size) (h2 : size ≤ 16) {st sk a b c : Int} (h : addrB size st sk = (a, b, c)) (cells : Nat) : isA size cells a b c := by
  unfold addrB at h
  split at h
  · obtain ⟨rfl, rfl, rfl⟩ : 1 = a ∧ 0 = b ∧ 0 = c := by simpa using h
    exact .inl ⟨rfl, rfl, rfl⟩
  · obtain ⟨rfl, rfl, rfl⟩ : 2 = a ∧ slotZ sk size = b ∧ 0 = c := by simpa using h
    exact .inr (.inl ⟨rfl, slotZ_lt sk size (by omega) (by omega), rfl⟩)
/-- The same, with an object beside it. -/
def StepMidQ (w : World) (p x r y ring size k : Nat) (th kd : Int) (Q : HP) (wr : World) : Prop := ∃ l st seen sk L, l.length ≤ k ∧ OkW l ∧ BRel size st seen sk L ∧ (∀ z ∈ L, I64 z) ∧
  ((kd = 0 ∧ (ring ≠ size ∨ st = 2) ∧ AtW w (Star (Four p x r y ring size l l st seen sk L) Q) wr) ∨
   (ring = size ∧ st ≠ 2 ∧ ∃ a b c v st' seen' sk', addrB size st sk = (a, b, c) ∧ wordOf l a b c = v ∧ stepB size st seen sk v = (st', seen', sk', kd) ∧ (kd = 2 ∨ kd = 3) ∧ AtW w (Star (Four p x r y ring size (l ++ [ldAcc th a b c v]) l st' seen' sk' L) Q) wr))
theorem StepMid.box {w wr : World} {p x r y ring size k : Nat} {th kd : Int} (h : StepMid w p x r y ring size k th kd wr) (cs : Array Value) (T : TypeId) : StepMidQ w p x r y ring size k th kd (BlkH wr.heap.size cs T) (wr.alloc (.cells cs T)) := by
  obtain ⟨l, st, seen, sk, L, h1, h2, h3, h4, h5⟩ := h
  refine ⟨l, st, seen, sk, L, h1, h2, h3, h4, ?_⟩
  rcases h5 with ⟨g1, g2, g3⟩ | ⟨g1, g2, a, b, c, v, st', seen', sk', g3, g4, g5, g6, g7⟩
  · exact .inl ⟨g1, g2, g3.box (Four.good _ _ _ _ _ _ _ _ _ _ _ _) cs T⟩
  · exact .inr ⟨g1, g2, a, b, c, v, st', seen', sk', g3, g4, g5, g6, g7.box (Four.good _ _ _ _ _ _ _ _ _ _ _ _) cs T⟩
theorem plays_step2 {w wr : World} {p x r y ring size k : Nat} (hs1 : 1 ≤ size) (hs2 : size ≤ 16) {th kd : Int} {Q : HP} (gq : Good Q) (h : StepMidQ w p x r y ring size k th kd Q wr) (hk : k ≤ 2999999999000) :
    Calls Try.prog 20 #[.pointer (some ⟨y, 0, none⟩), .pointer (some ⟨r, 0, none⟩), .int .i64 th] wr fun e w' => e = .returned (.int .i64 kd) ∧ PlaysAt w p x r y ring size (k + 1) w' ∧ Has Q w' := by
  obtain ⟨l, st, seen, sk, L, h1, h2, h3, h4, h5⟩ := h
  have hlen := h3.len
  have hp := h3.plan
  rcases h5 with ⟨rfl, g2, g3⟩ | ⟨rfl, g2, a, b, c, v, st', seen', sk', g3, g4, g5, g6, g7⟩
  · by_cases hst : st = 2
    · subst hst
      rw [if_pos rfl] at hp
      refine ((Looks.left (B := Q) (Looks.right (A := BStep p x ring 3 l size 2 seen sk) (rbegStep_none r y ring 3 size l hs1 hs2 L h4 (by omega) th true sk seen 0 0 0 hp (.inl rfl)))).at ((Four.good _ _ _ _ _ _ _ _ _ _ _ _).star gq) g3).mono ?_
      rintro e w' ⟨rfl, h⟩
      exact ⟨rfl, ⟨l, 2, seen, sk, L, h.fst, by omega, h2, h3, h4⟩, h.has.right⟩
    · rw [if_neg hst] at hp
      refine ((Looks.left (B := Q) (Looks.right (A := BStep p x ring 3 l size st seen sk) (rbegStep_none r y ring 3 size l hs1 hs2 L h4 (by omega) th false 0 0 _ _ _ hp (.inr (g2.resolve_right hst))))).at ((Four.good _ _ _ _ _ _ _ _ _ _ _ _).star gq) g3).mono ?_
      rintro e w' ⟨rfl, h⟩
      exact ⟨rfl, ⟨l, st, seen, sk, L, h.fst, by omega, h2, h3, h4⟩, h.has.right⟩
  · rw [if_neg g2, g3] at hp
    have hst := h3.step hs1 g2 v
    rw [g5] at hst
    simp only at hst
    obtain ⟨⟨th2, s2, n2, a2, b2, c2⟩, hp2⟩ : ∃ t, nextP ring (L ++ [v]) = t := ⟨_, rfl⟩
    rw [hp2] at hst
    have hvI : I64 v := g4 ▸ h2 a b c
    refine ((Lifts.left gq (Lifts.right (BStep.good _ _ _ _ _ _ _ _ _) (rbegStep_go r y ring 3 ring l hs1 hs2 L h4 (by omega) th (by omega) 0 0 a b c hp rfl (addrB_isA hs1 hs2 g3 3) v g4 hvI th2 s2 n2 a2 b2 c2 hp2))).at g7).mono ?_
    rintro e w' ⟨rfl, h⟩
    refine ⟨by rw [hst.2], ⟨l ++ [ldAcc th a b c v], st', seen', sk', L ++ [v], h.fst, by simp; omega, okW_ld h2 _ _ _ _ _, hst.1, fun z hz => ?_⟩, h.has.right⟩
    rcases List.mem_append.1 hz with hz | hz
    · exact h4 z hz
    · rw [List.mem_singleton.1 hz]; exact hvI
end Go.Proofs.Ytkhppganhhmpeaa
