/- Layer 8: the walk of CheckPlays. -/
import Derived.Test.YtecbnialcnplkaaG0
import Derived.Test.YtecbnialcnplkaaW8b
import Derived.Test.YtecbnialcnplkaaS8z
import Derived.Test.YtecbnialcnplkaaW8c
import Derived.Test.YtecbnialcnplkaaC8i
import Derived.Test.YtecbnialcnplkaaRT
import Derived.Deep.RegionLaw
namespace Go.Proofs.Ytecbnialcnplkaa
open Go.RowKit
set_option linter.unusedVariables false
theorem rstore8_any (r ring cells : Nat) (l : List Acc) (hlen : l.length ≤ 3000000000000) (th k i j v : Int) :
    Lifts Try.prog 21 #[.pointer (some ⟨r, 0, none⟩), .int .i64 th, .agg #[.int .i64 k, .int .i64 i, .int .i64 j], .int .i64 v] (RMemH r ring cells l) (RMemH r ring cells (putL ring cells l th k i j v)) (.returned (.int .i64 (if isA ring cells k i j then 0 else 1))) := by
  unfold putL
  by_cases h : isA ring cells k i j
  · rw [if_pos h, if_pos h]; exact rstore_in r ring cells l hlen th k i j v h
  · rw [if_neg h, if_neg h]; exact rstore_out r ring cells l th k i j v h
/-- The two machines beside their memories. -/
abbrev FourK (p x r y n : Nat) (l l' : List Acc) (fr : Int) (rs : Nat → Int) (la : Bool) (s : CS) (L : List Int) : HP := Star (CStep p x n 3 l n fr rs la s) (RCStep r y n 3 l' fr rs la L)
theorem FourK.good (p x r y n : Nat) (l l' : List Acc) (fr : Int) (rs : Nat → Int) (la : Bool) (s : CS) (L : List Int) : Good (FourK p x r y n l l' fr rs la s L) := (CStep.good _ _ _ _ _ _ _ _ _ _).star (RCStep.good _ _ _ _ _ _ _ _ _)
/-- The loop's invariant. -/
def PlayK (w : World) (p x r y n : Nat) (fr : Int) (rs : Nat → Int) (la : Bool) (k : Nat) (wr : World) : Prop := ∃ l s e L, AtW w (FourK p x r y n l l fr rs la s L) wr ∧ l.length ≤ k ∧ OkW l ∧ KRel n fr rs la s e L
section
variable {w wr w' : World} {p x r y n k : Nat} {fr : Int} {rs : Nat → Int} {la : Bool}
theorem PlayK.below (h : PlayK w p x r y n fr rs la k wr) : Below w.heap.size w wr := by
  obtain ⟨l, s, e, L, h1, _⟩ := h
  exact h1.below
theorem PlayK.calm (h : PlayK w p x r y n fr rs la k wr) (hb : Below wr.heap.size wr w') : PlayK w p x r y n fr rs la k w' := by
  obtain ⟨l, s, e, L, h1, h2⟩ := h
  exact ⟨l, s, e, L, h1.calm (FourK.good _ _ _ _ _ _ _ _ _ _ _ _) hb, h2⟩
theorem PlayK.up (h : PlayK w p x r y n fr rs la k wr) : PlayK w p x r y n fr rs la (k + 1) wr := by
  obtain ⟨l, s, e, L, h1, h2, h3⟩ := h
  exact ⟨l, s, e, L, h1, by omega, h3⟩
theorem playK_starts (hn1 : 1 ≤ n) (hn2 : n ≤ 16) (hf : 0 ≤ fr) (h : PlayK w p x r y n fr rs la k wr) :
    Calls Try.prog 23 #[.pointer (some ⟨x, 0, none⟩), .pointer (some ⟨y, 0, none⟩)] wr fun e w' => e = .returned (.bool true) ∧ PlayK w p x r y n fr rs la k w' := by
  have HP := Lib.hid h
  obtain ⟨l, s, e, L, h1, h2, h3, h4⟩ := h
  obtain ⟨F, hF⟩ := h1.has.mid8
  refine (starts8_any x y n hn1 hn2 fr hf rs la s e L h4 wr F hF).mono ?_
  rintro e w' ⟨rfl, hb⟩
  exact ⟨rfl, HP.out.calm hb⟩
/-- Behind the program's store, ahead of the reference's. -/
def StoreK (w : World) (p x r y n : Nat) (fr : Int) (rs : Nat → Int) (la : Bool) (k : Nat) (th a b c v : Int) (wr : World) : Prop := ∃ l s e L, AtW w (FourK p x r y n (putL n 3 l th a b c v) l fr rs la s L) wr ∧ l.length ≤ k ∧ OkW l ∧ KRel n fr rs la s e L
theorem playK_store1 (h : PlayK w p x r y n fr rs la k wr) (hk : k ≤ 2999999999000) (th a b c v : Int) :
    Calls Try.prog 20 #[.pointer (some ⟨p, 0, none⟩), .int .i64 th, .agg #[.int .i64 a, .int .i64 b, .int .i64 c], .int .i64 v] wr fun e w' => (∃ z, e = .returned (.int .i64 z)) ∧ StoreK w p x r y n fr rs la k th a b c v w' := by
  obtain ⟨l, s, e, L, h1, h2, h3⟩ := h
  refine ((Lifts.left (RCStep.good _ _ _ _ _ _ _ _ _) (Lifts.left (BlkH.good _ _ _) (store_any p n 3 l (by omega) th a b c v))).at h1).mono ?_
  rintro e w' ⟨rfl, h⟩
  exact ⟨⟨_, rfl⟩, l, _, _, _, h, h2, h3⟩
theorem StoreK.below {th a b c v : Int} (h : StoreK w p x r y n fr rs la k th a b c v wr) : Below w.heap.size w wr := by
  obtain ⟨l, s, e, L, h1, _⟩ := h
  exact h1.below
theorem StoreK.calm {th a b c v : Int} (h : StoreK w p x r y n fr rs la k th a b c v wr) (hb : Below wr.heap.size wr w') : StoreK w p x r y n fr rs la k th a b c v w' := by
  obtain ⟨l, s, e, L, h1, h2⟩ := h
  exact ⟨l, s, e, L, h1.calm (FourK.good _ _ _ _ _ _ _ _ _ _ _ _) hb, h2⟩
theorem playK_store2 {th a b c v : Int} (h : StoreK w p x r y n fr rs la k th a b c v wr) (hk : k ≤ 2999999999000) (hv : I64 v) :
    Calls Try.prog 21 #[.pointer (some ⟨r, 0, none⟩), .int .i64 th, .agg #[.int .i64 a, .int .i64 b, .int .i64 c], .int .i64 v] wr fun e w' => (∃ z, e = .returned (.int .i64 z)) ∧ PlayK w p x r y n fr rs la (k + 1) w' := by
  obtain ⟨l, s, e, L, h1, h2, h3, h4⟩ := h
  refine ((Lifts.right (CStep.good _ _ _ _ _ _ _ _ _ _) (Lifts.left (LstH.good _ _ _ _ _) (rstore8_any r n 3 l (by omega) th a b c v))).at h1).mono ?_
  rintro e w' ⟨rfl, h⟩
  have := putL_len n 3 l th a b c v
  exact ⟨⟨_, rfl⟩, _, _, _, _, h, by omega, okW_put h3 th a b c v hv, h4⟩
/-- Behind the program's step, ahead of the reference's; an object beside it. -/
def StepK (w : World) (p x r y n : Nat) (fr : Int) (rs : Nat → Int) (la : Bool) (k : Nat) (th kd er : Int) (O : HP → HP) (wr : World) : Prop := ∃ l s e L, l.length ≤ k ∧ OkW l ∧ KRel n fr rs la s e L ∧
  ((kd = 0 ∧ er = 0 ∧ 4 ≤ s.st ∧ AtW w (O (FourK p x r y n l l fr rs la s L)) wr) ∨
   (s.st < 4 ∧ ∃ a b c v s', addrK n s = (a, b, c) ∧ wordOf l a b c = v ∧ stepK n fr rs la s v = (s', kd, er) ∧ AtW w (O (FourK p x r y n (l ++ [ldAcc th a b c v]) l fr rs la s' L)) wr))
theorem StepK.below {th kd er : Int} (h : StepK w p x r y n fr rs la k th kd er id wr) : Below w.heap.size w wr := by
  obtain ⟨l, s, e, L, h1, h2, h3, h4⟩ := h
  rcases h4 with ⟨_, _, _, g⟩ | ⟨_, a, b, c, v, s', _, _, _, g⟩
  · exact g.below
  · exact g.below
theorem StepK.box {th kd er : Int} (h : StepK w p x r y n fr rs la k th kd er id wr) (cs : Array Value) (T : TypeId) : StepK w p x r y n fr rs la k th kd er (fun O => Star O (BlkH wr.heap.size cs T)) (wr.alloc (.cells cs T)) := by
  obtain ⟨l, s, e, L, h1, h2, h3, h4⟩ := h
  refine ⟨l, s, e, L, h1, h2, h3, ?_⟩
  rcases h4 with ⟨g1, g2, g3, g⟩ | ⟨g1, a, b, c, v, s', g2, g3, g4, g⟩
  · exact .inl ⟨g1, g2, g3, AtW.box (FourK.good _ _ _ _ _ _ _ _ _ _ _ _) g cs T⟩
  · exact .inr ⟨g1, a, b, c, v, s', g2, g3, g4, AtW.box (FourK.good _ _ _ _ _ _ _ _ _ _ _ _) g cs T⟩
theorem playK_step1 (hn1 : 1 ≤ n) (hn2 : n ≤ 16) (hf : 0 ≤ fr) (hrs : Wds rs) (h : PlayK w p x r y n fr rs la k wr) (hk : k ≤ 2999999999000) (th : Int) :
    Calls Try.prog 13 #[.pointer (some ⟨x, 0, none⟩), .pointer (some ⟨p, 0, none⟩), .int .i64 th] wr fun e w' => ∃ kd er b, e = .returned (ansV kd er 0 b) ∧ ((kd = 0 ∧ b = false) ∨ ((kd = 1 ∨ kd = 2 ∨ kd = 3 ∨ kd = 4) ∧ b = true)) ∧ StepK w p x r y n fr rs la k th kd er id w' := by
  obtain ⟨l, s, e, L, h1, h2, h3, h4⟩ := h
  by_cases hst : 4 ≤ s.st
  · refine ((Looks.left (B := RCStep r y n 3 l fr rs la L) (chkStep_none p x n 3 l n fr rs la s th (.inr hst))).at (FourK.good _ _ _ _ _ _ _ _ _ _ _ _) h1).mono ?_
    rintro e w' ⟨rfl, h⟩
    exact ⟨0, 0, false, rfl, .inl ⟨rfl, rfl⟩, l, s, _, L, h2, h3, h4, .inl ⟨rfl, rfl, hst, h⟩⟩
  · obtain ⟨⟨a, b, c⟩, ha⟩ : ∃ t, addrK n s = t := ⟨_, rfl⟩
    obtain ⟨v, hv⟩ : ∃ v, wordOf l a b c = v := ⟨_, rfl⟩
    obtain ⟨⟨s', kd, er⟩, hs⟩ : ∃ t, stepK n fr rs la s v = t := ⟨_, rfl⟩
    have hvI : I64 v := hv ▸ h3 a b c
    have hst' : s.st < 4 := by omega
    have hsy := step_says (size := n) (fr := fr) (last := la) (v := v) h4.inv hst'
    rw [hs] at hsy
    simp only at hsy
    refine ((Lifts.left (RCStep.good _ _ _ _ _ _ _ _ _) (chkStep_go p x n 3 l (by omega) hn1 hn2 fr hf rs hrs la s th (h4.inv.rng hst' hf) a b c ha v hv hvI s' kd er hs)).at h1).mono ?_
    rintro e w' ⟨rfl, h⟩
    refine ⟨kd, er, true, rfl, .inr ⟨?_, rfl⟩, l, s, _, L, h2, h3, h4, .inr ⟨hst', a, b, c, v, s', ha, hv, hs, h⟩⟩
    rcases hsy with ⟨h, _⟩ | ⟨_, ⟨_, h, _⟩ | ⟨_, h, _⟩ | ⟨_, h, _⟩⟩
    · exact .inl h
    · exact .inr (.inl h)
    · exact .inr (.inr (.inl h))
    · exact .inr (.inr (.inr h))
theorem playK_step2 (hn1 : 1 ≤ n) (hn2 : n ≤ 16) (hf : 0 ≤ fr) {th kd er : Int} {Q : HP} (gq : Good Q) (h : StepK w p x r y n fr rs la k th kd er (fun O => Star O Q) wr) (hk : k ≤ 2999999999000) :
    Calls Try.prog 22 #[.pointer (some ⟨y, 0, none⟩), .pointer (some ⟨r, 0, none⟩), .int .i64 th] wr fun e w' => e = .returned (.tuple #[.int .i64 kd, .int .i64 er]) ∧ PlayK w p x r y n fr rs la (k + 1) w' ∧ Has Q w' := by
  obtain ⟨l, s, e0, L, h2, h3, h4, h5⟩ := h
  have hlen := h4.inv.len hn2
  rcases h5 with ⟨rfl, rfl, hst, g⟩ | ⟨hst, a, b, c, v, s', ha, hv, hs, g⟩
  · have key : ∃ er s0 n0, planK n (Rep n fr rs la L) = (true, er, s0, n0, 0, 0, 0, 0) := by
      by_cases e4 : s.st = 4
      · exact ⟨_, _, _, h4.rep ▸ planK_4 e4⟩
      · exact ⟨_, _, _, h4.rep ▸ planK_5 hst e4⟩
    obtain ⟨er, s0, n0, hp⟩ := key
    refine ((Looks.left (B := Q) (Looks.right (A := CStep p x n 3 l n fr rs la s) (rchkStep_thr r y n 3 l hn1 hn2 fr hf rs la L h4.num (by omega) h4.ok th er s0 n0 _ _ _ _ hp))).at ((FourK.good _ _ _ _ _ _ _ _ _ _ _ _).star gq) g).mono ?_
    rintro e w' ⟨rfl, h⟩
    exact ⟨rfl, ⟨l, s, e0, L, h.fst, by omega, h3, h4⟩, h.has.right⟩
  · have hvI : I64 v := hv ▸ h3 a b c
    have hp := h4.rep ▸ planK_on (e := e0) hst ha
    have hA := addrK_isA hn1 hn2 h4.inv hst ha 3
    have hsy := step_says (size := n) (fr := fr) (last := la) (v := v) h4.inv hst
    rw [hs] at hsy
    simp only at hsy
    rcases hsy with ⟨rfl, rfl, rfl, hs1, hlt⟩ | ⟨hnw, hq⟩
    · rw [if_pos hs1] at hp
      have hsk : 0 < s'.sk := by
        rcases h4.inv with ⟨h0, _⟩ | ⟨h0, _, _, hse, h1, h2, _⟩ | ⟨h0, _, _, hse, h1, h2, m, hm, hw, _⟩ | ⟨h0, _⟩ | ⟨h0, _⟩ <;> omega
      refine ((Lifts.left gq (Lifts.right (CStep.good _ _ _ _ _ _ _ _ _ _) (rchkStep_wait r y n 3 l hn1 hn2 fr hf rs la L h4.num (by omega) h4.ok th (by omega) 0 0 0 a b c _ hp hA v hv hvI hsk hlt))).at g).mono ?_
      rintro e w' ⟨rfl, h⟩
      exact ⟨rfl, ⟨_, s', e0, L, h.fst, by simp; omega, okW_ld h3 _ _ _ _ _, h4⟩, h.has.right⟩
    · have hk1 : (stepK n fr rs la s v).2.1 ≠ 1 := by rw [hs]; simp only; omega
      have hok2 : RepOk n fr rs la (L ++ [v]) := h4.ok.snoc (by rw [h4.rep]; exact hst) (by rw [h4.rep]; exact hk1)
      have hrep2 : Rep n fr rs la (L ++ [v]) = (s', er) := by
        rw [Rep_snoc, h4.rep]
        unfold repStep
        simp only [hs]
      have hinv2 : KInv n fr rs s' (L ++ [v]).length := by
        have := h4.inv.step (last := la) (v := v) hn2 hst hvI hk1
        rw [hs] at this
        rw [List.length_append]
        exact this
      have hrel2 : KRel n fr rs la s' er (L ++ [v]) := ⟨hrep2, hok2, hinv2, fun z hz => (List.mem_append.1 hz).elim (h4.num z) (fun h => by rw [List.mem_singleton.1 h]; exact hvI), fun h5 => by
        rcases hq with ⟨g1, g2, g3⟩ | ⟨g1, g2, g3⟩ | ⟨g1, g2, g3⟩
        · omega
        · omega
        · exact g3⟩
      have key : ∃ th2 e2 s2 n2 a2 b2 c2 d2, planK n (Rep n fr rs la (L ++ [v])) = (th2, e2, s2, n2, a2, b2, c2, d2) ∧ (if th2 = true then if e2 = 0 then Value.tuple #[.int .i64 3, .int .i64 0] else .tuple #[.int .i64 4, .int .i64 e2] else .tuple #[.int .i64 2, .int .i64 0]) = .tuple #[.int .i64 kd, .int .i64 er] := by
        rw [hrep2]
        rcases hq with ⟨g1, rfl, rfl⟩ | ⟨g1, rfl, rfl⟩ | ⟨g1, rfl, g3⟩
        · exact ⟨_, _, _, _, _, _, _, _, planK_on g1 rfl, by simp⟩
        · exact ⟨_, _, _, _, _, _, _, _, planK_4 g1, by simp⟩
        · exact ⟨_, _, _, _, _, _, _, _, planK_5 (by omega) (by omega), by simp [g3]⟩
      obtain ⟨th2, e2, s2, n2, a2, b2, c2, d2, hp2, hans⟩ := key
      by_cases hs1 : s.st = 1
      · rw [if_pos hs1] at hp
        have hsk : 0 < s.sk := by
          rcases h4.inv with ⟨h0, _⟩ | ⟨h0, _, _, hse, h1, h2, _⟩ | ⟨h0, _, _, hse, h1, h2, m, hm, hw, _⟩ | ⟨h0, _⟩ | ⟨h0, _⟩ <;> omega
        refine ((Lifts.left gq (Lifts.right (CStep.good _ _ _ _ _ _ _ _ _ _) (rchkStep_go2 r y n 3 l hn1 hn2 fr hf rs la L h4.num (by omega) h4.ok th (by omega) 0 0 0 a b c _ hp hA v hv hvI hsk (fun h => hnw ⟨hs1, h⟩) hok2 th2 e2 s2 n2 a2 b2 c2 d2 hp2))).at g).mono ?_
        rintro e w' ⟨rfl, h⟩
        exact ⟨by rw [hans], ⟨_, s', er, _, h.fst, by simp; omega, okW_ld h3 _ _ _ _ _, hrel2⟩, h.has.right⟩
      · rw [if_neg hs1] at hp
        refine ((Lifts.left gq (Lifts.right (CStep.good _ _ _ _ _ _ _ _ _ _) (rchkStep_go1 r y n 3 l hn1 hn2 fr hf rs la L h4.num (by omega) h4.ok th (by omega) 0 0 0 a b c _ hp hA v hv hvI (by omega) hok2 th2 e2 s2 n2 a2 b2 c2 d2 hp2))).at g).mono ?_
        rintro e w' ⟨rfl, h⟩
        exact ⟨by rw [hans], ⟨_, s', er, _, h.fst, by simp; omega, okW_ld h3 _ _ _ _ _, hrel2⟩, h.has.right⟩
/-- The logs are compared. -/
theorem playK_logs (h : PlayK w p x r y n fr rs la k wr) (hk : k ≤ 2999999999000) :
    ∃ l lv, wr.cell? ⟨r, 2, none⟩ = some lv ∧ (∀ o, wr.frozen? ⟨r, o, none⟩ = false) ∧ Calls Try.prog 25 #[.pointer (some ⟨p, 0, none⟩), .int .i64 0] wr (LogGot wr l) ∧
      ∀ v w', w'.ownsRow 0 87 8 v l.length (accCells l) → Below wr.heap.size wr w' → Calls Try.prog 24 #[v, lv] w' fun e w2 => e = .returned (.bool true) ∧ Below w.heap.size w w2 := by
  obtain ⟨l, s, e0, L, h1, h2, h3, h4⟩ := h
  have hbel := h1.below
  obtain ⟨F, hM⟩ := h1.has.left.left
  obtain ⟨G, lv, g1, g2, g3, g4⟩ := h1.has.right.left
  obtain ⟨_, _, q2, qz⟩ := three_cells g1
  refine ⟨l, lv, q2, qz, log_any p n 3 l (by omega) wr F hM, fun v w' hv hb => ?_⟩
  refine (accs8_any v lv l (by omega) w' hv (own_calm g2 hb)).mono ?_
  rintro e w2 ⟨rfl, hb2⟩
  exact ⟨rfl, hbel.trans ((hb.trans (hb2.mono hb.size)).mono hbel.size)⟩
end
open Go.RowKit
set_option linter.unusedVariables false
set_option maxHeartbeats 4000000 in
set_option maxRecDepth 100000 in
theorem checkPlays_law {w : World} (size fr : Int) (rs : Nat → Int) (la : Bool) (a : Option Addr) (len cap : Nat) (q : Nat → Nat → Int) (hrs : Wds rs) (hg : Grid w a len 6 q) (hlc : len ≤ cap) (hcm : cap ≤ maxLen) (hq : ∀ i j, (Lit.int .i64 (q i j)).wf = true) (hsmall : len ≤ 2932031007402) :
    Calls Try.prog 5 #[.agg #[.int .i64 size, .int .i64 fr, .int .u64 (rs 0), .int .u64 (rs 1), .int .u64 (rs 2), .int .u64 (rs 3), .int .u64 (rs 4), .int .u64 (rs 5), .int .u64 (rs 6), .int .u64 (rs 7), .bool la, .slice a len cap]] w fun e w' => e = .returned (.bool true) ∧ Below w.heap.size w w' := by
  have HG := Lib.hid hg
  have HQ := Lib.hid hq
  have HRS := Lib.hid hrs
  unfold maxLen at hcm
  have HB0 : Hid (∀ a b, Below w.heap.size w ((w.alloc a).alloc b)) := fun a b => ((Below.refl _ _).alloc (Nat.le_refl _) _).alloc (by simp) _
  clear hg hq hrs
  by_cases hs : (1 ≤ size ∧ size ≤ 16) ∧ 0 ≤ fr
  · obtain ⟨n, rfl⟩ : ∃ n : Nat, size = n := ⟨size.toNat, by omega⟩
    have hn1 : 1 ≤ n := by omega
    have hn2 : n ≤ 16 := by omega
    have hf : 0 ≤ fr := hs.2
    have HT := Lib.hid (ktakes_any n fr)
    rw [decide_eq_true hs] at HT
    have HC := Lib.hid (chkNew_any n fr rs la (by omega) (by omega) hf)
    have HM := Lib.hid (memNew_any 3 n (by decide) (by decide) hn1 (by omega))
    have HR := Lib.hid (rmemNew_any 3 n)
    clear hs
    go_enter Try.func5, Try.ntmps5
    go_wp2_with fail
    refine (shown8_any _).mono ?_; rintro e w1 ⟨rfl, hb⟩
    have hbx : w1.heap[w.heap.size + 1]? = some (.cells #[.int .u64 (rs 0), .int .u64 (rs 1), .int .u64 (rs 2), .int .u64 (rs 3), .int .u64 (rs 4), .int .u64 (rs 5), .int .u64 (rs 6), .int .u64 (rs 7)] 42) := (hb.block _ (by simp)).trans (by
      have h : ∀ a b, ((w.alloc a).alloc b).heap[w.heap.size + 1]? = some b := fun a b => by
        have h := heapAlloc (w.alloc a) b
        rwa [World.size_alloc] at h
      exact h _ _)
    have HBX := Lib.hid hbx
    have B1 := Lib.hid ((HB0.out _ _).trans (hb.mono (by simp; omega)))
    obtain ⟨d0, d1, d2, d3, d4, d5, d6, d7, dz⟩ := blk_facts hbx
    clear hb hbx
    go_wp2_with fail
    refine (HC.out w1).mono ?_; rintro e w2 ⟨x, rfl, h⟩
    have H2 := Lib.hid h
    clear h d0 d1 d2 d3 d4 d5 d6 d7 dz
    go_wp2_with fail
    refine (HT.out w2).mono ?_; rintro e w' ⟨rfl, rfl⟩
    go_wp2_with fail
    refine (HM.out w2).mono ?_; rintro e w3 ⟨p, rfl, h⟩
    have H3 : Hid (AtW w1 (CStep p x n 3 [] n fr rs la ⟨0, fr, 0, 0, 0⟩) w3) := (H2.out.new (BlkH.good _ _ _) h).imp (fun _ h => h.comm)
    clear h H2
    go_wp2_with fail
    refine (HR.out w3).mono ?_; rintro e w4 ⟨r, rfl, h⟩
    have H4 := Lib.hid (H3.out.new (CStep.good _ _ _ _ _ _ _ _ _ _) h)
    clear h H3
    have H5 : Hid (PlayK w1 p x r w4.heap.size n fr rs la 0 (w4.alloc (.cells #[.int .i64 n, .int .i64 fr, .int .u64 (rs 0), .int .u64 (rs 1), .int .u64 (rs 2), .int .u64 (rs 3), .int .u64 (rs 4), .int .u64 (rs 5), .int .u64 (rs 6), .int .u64 (rs 7), .bool la, .slice none 0 0] 68))) := ⟨[], ⟨0, fr, 0, 0, 0⟩, 0, [], ((H4.out.new ((CStep.good _ _ _ _ _ _ _ _ _ _).star (RMemH.good _ _ _ _)) (LstH.new8 _ (rchkC n fr rs la) _ 2 rfl))).imp (fun _ h => h.assoc8), Nat.zero_le _, okW_nil, ⟨rfl, fun k v h => by simp at h, .inl ⟨rfl, rfl⟩, (fun z hz => by cases hz), (fun h => absurd (show (0 : Int) = 5 from h) (by decide))⟩⟩
    have hbx4 := (H4.out.below.block _ (heap_lt HBX.out)).trans HBX.out
    have hl4 := heap_lt hbx4
    obtain ⟨d0, d1, d2, d3, d4, d5, d6, d7, dz⟩ := blk_facts hbx4
    clear H4 HM HR HT HC hbx4
    go_wp2_with fail
    clear d0 d1 d2 d3 d4 d5 d6 d7 dz hl4
    generalize w4.heap.size = y at *
    go_loopw [16] (fun i wr => ∃ k : Nat, k ≤ len ∧ i = .int .i64 k ∧ Hid (PlayK w1 p x r y n fr rs la k wr)) (fun i _ => len - (intOf i).toNat)
    case atStart => exact ⟨0, by omega, rfl, H5.out⟩
    case round =>
      obtain ⟨k, hk, rfl, HE⟩ := hrel
      clear H5
      by_cases hlt : k < len
      · obtain ⟨b, off, rfl, hbw, hcell⟩ := HG.out.resolve_left (by omega)
        have hbel := B1.out.trans (HE.out.below.mono B1.out.size)
        have c0 := (hbel.cell (p := ⟨b, off + k * 6 + 0, none⟩) hbw).trans (hcell k hlt 0 (by omega))
        simp only [Nat.add_zero] at c0
        by_cases h1 : q k 0 = 1
        · rw [h1] at c0
          have c2 := (hbel.cell (p := ⟨b, off + k * 6 + 2, none⟩) hbw).trans (hcell k hlt 2 (by omega))
          have c3 := (hbel.cell (p := ⟨b, off + k * 6 + 3, none⟩) hbw).trans (hcell k hlt 3 (by omega))
          have c4 := (hbel.cell (p := ⟨b, off + k * 6 + 4, none⟩) hbw).trans (hcell k hlt 4 (by omega))
          have c5 := (hbel.cell (p := ⟨b, off + k * 6 + 5, none⟩) hbw).trans (hcell k hlt 5 (by omega))
          have HX := Lib.hid (playK_store1 (HE.out.calm ((Below.refl _ _).drew)) (by omega) (-1) (q k 2) (q k 3) (q k 4) (q k 5))
          clear h1
          go_wp2_with fail
          go_still_tail 11, (by kernel_rfl)
          change wpList _ _ _ _ _ wr.drew
          go_wp2_with fail
          refine HX.out.mono ?_; rintro e w5 ⟨⟨z, rfl⟩, h⟩
          have H5 := Lib.hid h
          have hbel5 := B1.out.trans (h.below.mono B1.out.size)
          clear h HX c0 c2 c3 c4 c5 hbel
          have c2 := (hbel5.cell (p := ⟨b, off + k * 6 + 2, none⟩) hbw).trans (hcell k hlt 2 (by omega))
          have c3 := (hbel5.cell (p := ⟨b, off + k * 6 + 3, none⟩) hbw).trans (hcell k hlt 3 (by omega))
          have c4 := (hbel5.cell (p := ⟨b, off + k * 6 + 4, none⟩) hbw).trans (hcell k hlt 4 (by omega))
          have c5 := (hbel5.cell (p := ⟨b, off + k * 6 + 5, none⟩) hbw).trans (hcell k hlt 5 (by omega))
          have HX := Lib.hid (playK_store2 (H5.out.calm ((Below.refl _ _).drew)) (by omega) (I64.of_wf (HQ.out k 5)))
          clear hcell hbel5 H5
          go_wp2_with fail
          go_still_tail 11, (by kernel_rfl)
          change wpList _ _ _ _ _ w5.drew
          go_wp2_with fail
          refine HX.out.mono ?_; rintro e w6 ⟨⟨z, rfl⟩, h⟩
          have H6 := Lib.hid h
          clear h HX c2 c3 c4 c5
          go_wp2_with fail
          go_roundw
          case rel => exact ⟨k + 1, by omega, by go_num, H6.out⟩
          case measure => simp [intOf]; omega
        · have e1 : (q k 0 == 1) = false := by simp [h1]
          by_cases h2 : q k 0 = 2
          · rw [h2] at c0
            have c1 := (hbel.cell (p := ⟨b, off + k * 6 + 1, none⟩) hbw).trans (hcell k hlt 1 (by omega))
            have HX := Lib.hid (playK_step1 hn1 hn2 hf HRS.out HE.out (by omega) (q k 1))
            clear e1 h1 h2
            go_wp2_with fail
            refine HX.out.mono ?_; rintro e w5 ⟨kd, er, bb, rfl, hkd, h⟩
            have hbel5 := B1.out.trans (h.below.mono B1.out.size)
            have H5 := Lib.hid (h.box #[.int .i64 kd, .int .i64 er, .int .i64 0, .bool bb] 48)
            have c1' := (hbel5.cell (p := ⟨b, off + k * 6 + 1, none⟩) hbw).trans (hcell k hlt 1 (by omega))
            have hb5 : b < w5.heap.size := Nat.lt_of_lt_of_le hbw hbel5.size
            clear h HX c0 c1 hbel hbel5
            unfold ansV
            go_wp2_with fail
            refine (playK_step2 hn1 hn2 hf (BlkH.good _ _ _) H5.out (by omega)).mono ?_; rintro e w6 ⟨rfl, h, hbx⟩
            have H6 := Lib.hid h
            obtain ⟨z0, z1, z2, z3, _⟩ := four_cells hbx.blk
            clear h hbx H5 c1' hb5 hcell
            rcases hkd with ⟨rfl, rfl⟩ | ⟨rfl | rfl | rfl | rfl, rfl⟩
            all_goals
              go_wp2_with fail
              go_roundw
              case rel => exact ⟨k + 1, by omega, by go_num, H6.out⟩
              case measure => simp [intOf]; omega
          · have e2 : (q k 0 == 2) = false := by simp [h2]
            by_cases h3 : q k 0 = 3
            · have e3 : (q k 0 == 3) = true := by simp [h3]
              clear h1 h2 h3 hcell
              go_wp2_with fail
              refine (playK_starts hn1 hn2 hf HE.out).mono ?_; rintro e w5 ⟨rfl, h⟩
              have H6 := Lib.hid h.up
              clear h
              go_wp2_with fail
              go_roundw
              case rel => exact ⟨k + 1, by omega, by go_num, H6.out⟩
              case measure => simp [intOf]; omega
            · have e3 : (q k 0 == 3) = false := by simp [h3]
              have H6 := Lib.hid HE.out.up
              clear h1 h2 h3 hcell
              go_wp2_with fail
              go_roundw
              case rel => exact ⟨k + 1, by omega, by go_num, H6.out⟩
              case measure => simp [intOf]; omega
      · obtain rfl : k = len := by omega
        go_wp2_with fail
        refine (playK_starts hn1 hn2 hf HE.out).mono ?_; rintro e w5 ⟨rfl, h⟩
        have H5 := Lib.hid (h.calm ((Below.refl _ _).drew))
        clear h HE
        obtain ⟨l, lv, q2, qz, HLG, HAC⟩ := playK_logs H5.out (by omega)
        have HLG := Lib.hid HLG
        have HAC := Lib.hid HAC
        have hrl : r < w5.drew.heap.size := World.block_lt_of_cell? _ _ q2
        go_wp2_with fail
        go_region_law (first | (go_simp; go_at_call 25; refine HLG.out.mono ?_; rintro e wl ⟨v, rfl, hv, hb⟩; have ql := (hb.cell (p := ⟨r, 2, none⟩) hrl).trans q2) | (go_simp; go_at_call 24; refine (HAC.out _ _ hv hb).mono ?_; rintro e w7 ⟨rfl, h7⟩))
        all_goals
          have H7 := Lib.hid h7
          clear h7 hv hb ql
          go_wp2_with fail
          go_ret
          exact ⟨rfl, B1.out.trans (H7.out.mono B1.out.size)⟩
  · have HT := Lib.hid (ktakes_any size fr)
    rw [decide_eq_false hs] at HT
    have HC := Lib.hid (chkNew_bad size fr rs la hs)
    clear hs
    go_enter Try.func5, Try.ntmps5
    go_wp2_with fail
    refine (shown8_any _).mono ?_; rintro e w1 ⟨rfl, hb⟩
    have hbx : w1.heap[w.heap.size + 1]? = some (.cells #[.int .u64 (rs 0), .int .u64 (rs 1), .int .u64 (rs 2), .int .u64 (rs 3), .int .u64 (rs 4), .int .u64 (rs 5), .int .u64 (rs 6), .int .u64 (rs 7)] 42) := (hb.block _ (by simp)).trans (by
      have h : ∀ a b, ((w.alloc a).alloc b).heap[w.heap.size + 1]? = some b := fun a b => by
        have h := heapAlloc (w.alloc a) b
        rwa [World.size_alloc] at h
      exact h _ _)
    have B1 := Lib.hid ((HB0.out _ _).trans (hb.mono (by simp; omega)))
    obtain ⟨d0, d1, d2, d3, d4, d5, d6, d7, dz⟩ := blk_facts hbx
    clear hb hbx
    go_wp2_with fail
    refine (HC.out w1).mono ?_; rintro e w2 ⟨rfl, hb⟩
    have H2 := Lib.hid (B1.out.trans (hb.mono B1.out.size))
    clear hb d0 d1 d2 d3 d4 d5 d6 d7 dz
    go_wp2_with fail
    refine (HT.out w2).mono ?_; rintro e w' ⟨rfl, rfl⟩
    go_wp2_with fail
    go_ret
    exact ⟨rfl, H2.out⟩
end Go.Proofs.Ytecbnialcnplkaa
