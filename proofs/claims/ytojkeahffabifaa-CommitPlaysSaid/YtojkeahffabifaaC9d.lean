/- Layer 9: the program's machine as an object; New, Step, Start, Reads. -/
import Derived.Test.YtojkeahffabifaaC8d
import Derived.Test.YtojkeahffabifaaC2h
import Derived.Test.YtojkeahffabifaaC9i
import Derived.Test.YtojkeahffabifaaG0
import Derived.Test.YtojkeahffabifaaW8b
import Derived.Test.YtojkeahffabifaaS8
import Derived.Test.YtojkeahffabifaaS3
namespace Go.Proofs.Ytojkeahffabifaa
open Go.RowKit
set_option linter.unusedVariables false
end Go.Proofs.Ytojkeahffabifaa
namespace Go.Proofs.Ytojkeahffabifaa
open Go.RowKit
set_option linter.unusedVariables false
/-- A cell of the struct is written. -/
theorem LstH.set {y : Nat} {f f' : Value → Array Value} {T E : TypeId} {L : List Int} {w : World} (i : Nat) (v : Value) (h : ∀ lv, (f lv).setIfInBounds i v = f' lv) : Moves (LstH y f T E L) (LstH y f' T E L) w (w.setCell ⟨y, i, none⟩ v) := by
  rintro F ⟨lv, h1, h2, h3, h4⟩
  refine ⟨F, ⟨lv, (heapSet_eq _ _ _ _ _ _ _ h1).trans (by rw [h]), own_chg h2 (Chg.setCell _ _ _) (fun b hb (e : b = y) => h3 (by rw [hb, e])), h3, h4⟩, (Chg.refl F w).set _ _ (.inr ((h4 y).2 (.inl rfl))), fun _ h => .inl h⟩
/-- The list is struck. -/
theorem LstH.nil {y : Nat} {f f' : Value → Array Value} {T E : TypeId} {L : List Int} {w : World} (i : Nat) (h : ∀ lv, (f lv).setIfInBounds i (.slice none 0 0) = f' (.slice none 0 0)) : Moves (LstH y f T E L) (LstH y f' T E []) w (w.setCell ⟨y, i, none⟩ (.slice none 0 0)) := by
  rintro F ⟨lv, h1, h2, h3, h4⟩
  exact ⟨fun b => b = y, ⟨.slice none 0 0, (heapSet_eq _ _ _ _ _ _ _ h1).trans (by rw [h]), World.ownsRow_nil _ _ _ _, by simp [Value.ownBlock], fun b => by simp [Value.ownBlock]⟩, (Chg.refl F w).set _ _ (.inr ((h4 y).2 (.inl rfl))), fun b hb => .inl ((h4 b).2 (.inl hb))⟩
theorem LstH.newAt {w : World} {y : Nat} (cs : Array Value) (f : Value → Array Value) (T E : TypeId) (hy : y = w.heap.size) (hf : f (.slice none 0 0) = cs) : AtW w (LstH y f T E []) (w.alloc (.cells cs T)) := by
  subst hy; exact LstH.new8 cs f T E hf
theorem rtwo_cells {w : World} {p : Nat} {a b c : Value} {T : TypeId} (h : w.heap[p]? = some (.cells #[a, b, c] T)) : w.cell? ⟨p, 0, none⟩ = some a ∧ w.cell? ⟨p, 1, none⟩ = some b :=
  ⟨by simp [World.cell?, h], by simp [World.cell?, h]⟩
end Go.Proofs.Ytojkeahffabifaa
namespace Go.Proofs.Ytojkeahffabifaa
open Go.RowKit
theorem addrK_isA {size : Nat} (h1 : 1 ≤ size) (h2 : size ≤ 16) {fr : Int} {rs : Nat → Int} {s : CS} {len : Nat} (hi : KInv size fr rs s len) (h4 : s.st < 4) {a b c : Int} (h : addrK size s = (a, b, c)) (cells : Nat) : isA size cells a b c := by
  unfold addrK at h
  rcases hi with ⟨h0, _⟩ | ⟨h0, _⟩ | ⟨h0, _, _, _, _, _, m, hm, hw, _⟩ | ⟨h0, _⟩ | ⟨h0, _⟩
  · rw [if_pos (.inl h0)] at h
    obtain ⟨rfl, rfl, rfl⟩ : 1 = a ∧ 0 = b ∧ 0 = c := by simpa using h
    exact .inl ⟨rfl, rfl, rfl⟩
  · rw [if_neg (by omega), if_pos h0] at h
    obtain ⟨rfl, rfl, rfl⟩ : 2 = a ∧ slotZ s.sk size = b ∧ 0 = c := by simpa using h
    exact .inr (.inl ⟨rfl, slotZ_lt s.sk size (by omega) (by omega), rfl⟩)
  · rw [if_neg (by omega), if_neg (by omega), hw] at h
    obtain ⟨rfl, rfl, rfl⟩ : 3 = a ∧ slotZ s.sk size = b ∧ (m : Int) = c := by simpa using h
    exact .inr (.inr (.inl ⟨rfl, slotZ_lt s.sk size (by omega) (by omega), by omega, by omega⟩))
  · rw [if_pos (.inr h0)] at h
    obtain ⟨rfl, rfl, rfl⟩ : 1 = a ∧ 0 = b ∧ 0 = c := by simpa using h
    exact .inl ⟨rfl, rfl, rfl⟩
  · omega
theorem KInv.rng {size : Nat} {fr : Int} {rs : Nat → Int} {s : CS} {len : Nat} (h : KInv size fr rs s len) (h4 : s.st < 4) (hf : 0 ≤ fr) : KRng s := by
  rcases h with ⟨h0, _⟩ | ⟨h0, _, _, hse, h1, h2, _⟩ | ⟨h0, _, _, hse, h1, h2, m, hm, hw, _⟩ | ⟨h0, _⟩ | ⟨h0, _⟩
  · exact .inl (.inl h0)
  · exact .inr (.inl ⟨h0, by omega, by omega⟩)
  · exact .inr (.inr ⟨h0, ⟨by omega, hse⟩, m, hm, hw⟩)
  · exact .inl (.inr h0)
  · omega
end Go.Proofs.Ytojkeahffabifaa
namespace Go.Proofs.Ytojkeahffabifaa
open Go.RowKit
set_option linter.unusedVariables false
theorem Looks.lifts {P : Program} {f : FuncId} {args : Array Value} {O : HP} {v : Ending} (g : Good O) (h : Looks P f args O v) : Lifts P f args O O v := by
  intro w F hO
  refine (h w F hO).mono ?_
  rintro e w' ⟨rfl, hb⟩
  exact ⟨rfl, Stp.calm g hO hb⟩
/-- A step of the plain check, with all that it leaves. -/
structure KBoth (n : Nat) (fr : Int) (rs : Nat → Int) (la : Bool) (l : List Acc) (s : CS) (L : List Int) (th : Int) (l' : List Acc) (s' : CS) (e' : Int) (L' : List Int) (kd er : Int) (b : Bool) : Prop where
  rel : KRel n fr rs la s' e' L'
  okw : OkW l'
  len : l'.length ≤ l.length + 1
  ans : (kd = 0 ∧ b = false ∧ er = 0) ∨ ((kd = 1 ∨ kd = 2 ∨ kd = 3 ∨ kd = 4) ∧ b = true)
  err : kd ≠ 4 → er = 0
  idle : kd = 0 → 4 ≤ s.st
  done : kd = 3 ↔ (s.st < 4 ∧ s'.st = 4)
  fail : kd = 4 ↔ (s.st < 4 ∧ s'.st = 5)
theorem chk_both (T : TypeId) (f : Value → Array Value) (p x r y n cells : Nat) (hn1 : 1 ≤ n) (hn2 : n ≤ 16) (fr : Int) (hf : 0 ≤ fr) (rs : Nat → Int) (hrs : Wds rs) (la : Bool) (hf3 : Off3 f n fr rs la) (l : List Acc) (hlen : l.length ≤ 3000000000000) (hok : OkW l) (s : CS) (e0 : Int) (L : List Int) (h4 : KRel n fr rs la s e0 L) (th : Int) :
    ∃ l' s' e' L' kd er b, KBoth n fr rs la l s L th l' s' e' L' kd er b ∧
      Lifts Try.prog 52 #[.pointer (some ⟨x, 0, none⟩), .pointer (some ⟨p, 0, none⟩), .int .i64 th] (CStep p x n cells l n fr rs la s) (CStep p x n cells l' n fr rs la s') (.returned (ansV kd er 0 b)) ∧
      Lifts Try.prog 56 #[.pointer (some ⟨y, 3, none⟩), .pointer (some ⟨r, 0, none⟩), .int .i64 th] (RCStep T f r y n cells l L) (RCStep T f r y n cells l' L') (.returned (.tuple #[.int .i64 kd, .int .i64 er])) := by
  have hll := h4.inv.len hn2
  by_cases hst : 4 ≤ s.st
  · have key : ∃ er s0 n0, planK n (Rep n fr rs la L) = (true, er, s0, n0, 0, 0, 0, 0) := by
      by_cases e4 : s.st = 4
      · exact ⟨_, _, _, h4.rep ▸ planK_4 e4⟩
      · exact ⟨_, _, _, h4.rep ▸ planK_5 hst e4⟩
    obtain ⟨er, s0, n0, hp⟩ := key
    exact ⟨l, s, e0, L, 0, 0, false, ⟨h4, hok, by omega, .inl ⟨rfl, rfl, rfl⟩, fun _ => rfl, fun _ => hst, ⟨fun h => by omega, fun h => by omega⟩, ⟨fun h => by omega, fun h => by omega⟩⟩,
      Looks.lifts (CStep.good _ _ _ _ _ _ _ _ _ _) (chkStep_none p x n cells l n fr rs la s th (.inr hst)),
      Looks.lifts (RCStep.good _ _ _ _ _ _ _ _) (rchkStep_thr r y n cells l hn1 hn2 fr hf rs la hf3 L h4.num (by omega) h4.ok th er s0 n0 0 0 0 0 hp)⟩
  · obtain ⟨⟨a, b, c⟩, ha⟩ : ∃ t, addrK n s = t := ⟨_, rfl⟩
    obtain ⟨v, hv⟩ : ∃ v, wordOf l a b c = v := ⟨_, rfl⟩
    obtain ⟨⟨s', kd, er⟩, hs⟩ : ∃ t, stepK n fr rs la s v = t := ⟨_, rfl⟩
    have hvI : I64 v := hv ▸ hok a b c
    have hst' : s.st < 4 := by omega
    have hsy := step_says (size := n) (fr := fr) (last := la) (v := v) h4.inv hst'
    rw [hs] at hsy
    simp only at hsy
    have hp := h4.rep ▸ planK_on (e := e0) hst' ha
    have hA := addrK_isA hn1 hn2 h4.inv hst' ha cells
    have HC := chkStep_go p x n cells l (by omega) hn1 hn2 fr hf rs hrs la s th (h4.inv.rng hst' hf) a b c ha v hv hvI s' kd er hs
    rcases hsy with ⟨rfl, rfl, rfl, hs1, hlt⟩ | ⟨hnw, hq⟩
    · rw [if_pos hs1] at hp
      have hsk : 0 < s'.sk := by
        rcases h4.inv with ⟨h0, _⟩ | ⟨h0, _, _, hse, h1, h2, _⟩ | ⟨h0, _, _, hse, h1, h2, m, hm, hw, _⟩ | ⟨h0, _⟩ | ⟨h0, _⟩ <;> omega
      exact ⟨_, s', e0, L, 1, 0, true, ⟨h4, okW_ld hok _ _ _ _ _, by simp, .inr ⟨.inl rfl, rfl⟩, fun _ => rfl, fun h => by omega, ⟨fun h => by omega, fun h => by omega⟩, ⟨fun h => by omega, fun h => by omega⟩⟩, HC,
        rchkStep_wait r y n cells l hn1 hn2 fr hf rs la hf3 L h4.num (by omega) h4.ok th (by omega) 0 0 0 a b c _ hp hA v hv hvI hsk hlt⟩
    · have hk1 : (stepK n fr rs la s v).2.1 ≠ 1 := by rw [hs]; simp only; omega
      have hok2 : RepOk n fr rs la (L ++ [v]) := h4.ok.snoc (by rw [h4.rep]; exact hst') (by rw [h4.rep]; exact hk1)
      have hrep2 : Rep n fr rs la (L ++ [v]) = (s', er) := by
        rw [Rep_snoc, h4.rep]
        unfold repStep
        simp only [hs]
      have hinv2 : KInv n fr rs s' (L ++ [v]).length := by
        have := h4.inv.step (last := la) (v := v) hn2 hst' hvI hk1
        rw [hs] at this
        rw [List.length_append]
        exact this
      have hrel2 : KRel n fr rs la s' er (L ++ [v]) := ⟨hrep2, hok2, hinv2, fun z hz => (List.mem_append.1 hz).elim (h4.num z) (fun h => by rw [List.mem_singleton.1 h]; exact hvI), fun h5 => by
        rcases hq with ⟨g1, g2, g3⟩ | ⟨g1, g2, g3⟩ | ⟨g1, g2, g3⟩
        · omega
        · omega
        · exact g3⟩
      have key : ∃ th2 e2 s2 n2 a2 b2 c2 d2, planK n (Rep n fr rs la (L ++ [v])) = (th2, e2, s2, n2, a2, b2, c2, d2) ∧ (if th2 = true then if e2 = 0 then Value.tuple #[.int .i64 3, .int .i64 0] else .tuple #[.int .i64 4, .int .i64 e2] else .tuple #[.int .i64 2, .int .i64 0]) = .tuple #[.int .i64 kd, .int .i64 er] := by
        rw [hrep2]
        rcases hq with ⟨g1, rfl, rfl⟩ | ⟨g1, rfl, rfl⟩ | ⟨g1, rfl, g3⟩
        · exact ⟨_, _, _, _, _, _, _, _, planK_on g1 rfl, by simp⟩
        · exact ⟨_, _, _, _, _, _, _, _, planK_4 g1, by simp⟩
        · exact ⟨_, _, _, _, _, _, _, _, planK_5 (by omega) (by omega), by simp [g3]⟩
      obtain ⟨th2, e2, s2, n2, a2, b2, c2, d2, hp2, hans⟩ := key
      have kb : KBoth n fr rs la l s L th (l ++ [ldAcc th a b c v]) s' er (L ++ [v]) kd er true := by
        refine ⟨hrel2, okW_ld hok _ _ _ _ _, by simp, .inr ⟨?_, rfl⟩, ?_, ?_, ?_, ?_⟩
        · rcases hq with ⟨g1, g2, g3⟩ | ⟨g1, g2, g3⟩ | ⟨g1, g2, g3⟩ <;> omega
        · rcases hq with ⟨g1, g2, g3⟩ | ⟨g1, g2, g3⟩ | ⟨g1, g2, g3⟩ <;> omega
        · rcases hq with ⟨g1, g2, g3⟩ | ⟨g1, g2, g3⟩ | ⟨g1, g2, g3⟩ <;> omega
        · rcases hq with ⟨g1, g2, g3⟩ | ⟨g1, g2, g3⟩ | ⟨g1, g2, g3⟩ <;> omega
        · rcases hq with ⟨g1, g2, g3⟩ | ⟨g1, g2, g3⟩ | ⟨g1, g2, g3⟩ <;> omega
      refine ⟨_, s', er, _, kd, er, true, kb, HC, ?_⟩
      rw [← hans]
      by_cases hs1 : s.st = 1
      · rw [if_pos hs1] at hp
        have hsk : 0 < s.sk := by
          rcases h4.inv with ⟨h0, _⟩ | ⟨h0, _, _, hse, h1, h2, _⟩ | ⟨h0, _, _, hse, h1, h2, m, hm, hw, _⟩ | ⟨h0, _⟩ | ⟨h0, _⟩ <;> omega
        exact rchkStep_go2 r y n cells l hn1 hn2 fr hf rs la hf3 L h4.num (by omega) h4.ok th (by omega) 0 0 0 a b c _ hp hA v hv hvI hsk (fun h => hnw ⟨hs1, h⟩) hok2 th2 e2 s2 n2 a2 b2 c2 d2 hp2
      · rw [if_neg hs1] at hp
        exact rchkStep_go1 r y n cells l hn1 hn2 fr hf rs la hf3 L h4.num (by omega) h4.ok th (by omega) 0 0 0 a b c _ hp hA v hv hvI (by omega) hok2 th2 e2 s2 n2 a2 b2 c2 d2 hp2
end Go.Proofs.Ytojkeahffabifaa
namespace Go.Proofs.Ytojkeahffabifaa
open Go.RowKit
set_option linter.unusedVariables false
theorem Looks.pre {P : Program} {f : FuncId} {args : Array Value} {O O' : HP} {v : Ending} (h : ∀ w, Has O w → Has O' w) (k : Looks P f args O' v) : Looks P f args O v := by
  intro w F hO
  obtain ⟨F', h'⟩ := h w ⟨F, hO⟩
  exact k w F' h'
theorem Has.tail {A B C : HP} {w : World} (h : Has (Star (Star A B) C) w) : Has (Star B C) w := by
  obtain ⟨F, F1, FC, ⟨FA, FB, ha, hb, h1, h2⟩, hc, h3, h4⟩ := h
  exact ⟨fun b => FB b ∨ FC b, FB, FC, hb, hc, fun _ => Iff.rfl, fun b k1 k2 => h4 b ((h1 b).2 (.inr k1)) k2⟩
theorem Star.assocL {A B C : HP} {w : World} {F : Nat → Prop} (h : Star A (Star B C) w F) : Star (Star A B) C w F := by
  obtain ⟨FM, FC, hM, ⟨FA, FB, ha, hb, h1, h2⟩, h3, h4⟩ := h
  exact ⟨fun b => FM b ∨ FA b, FB, ⟨FM, FA, hM, ha, fun _ => Iff.rfl, fun b k1 k2 => h4 b k1 ((h1 b).2 (.inl k2))⟩, hb, fun b => by rw [h3 b, h1 b, or_assoc], fun b k1 k2 => k1.elim (fun k => h4 b k ((h1 b).2 (.inr k2))) (fun k => h2 b k k2)⟩
theorem Star.assocR {A B C : HP} {w : World} {F : Nat → Prop} (h : Star (Star A B) C w F) : Star A (Star B C) w F := by
  obtain ⟨F1, FC, ⟨FA, FB, ha, hb, h1, h2⟩, hc, h3, h4⟩ := h
  exact ⟨FA, fun b => FB b ∨ FC b, ha, ⟨FB, FC, hb, hc, fun _ => Iff.rfl, fun b k1 k2 => h4 b ((h1 b).2 (.inr k1)) k2⟩, fun b => by rw [h3 b, h1 b, or_assoc], fun b k1 k2 => k2.elim (fun k => h2 b k1 k) (fun k => h4 b ((h1 b).2 (.inl k1)) k)⟩
end Go.Proofs.Ytojkeahffabifaa
