/- Plain: an entry is published over a ring that grows. -/
import Derived.Test.YtojkeahffabifaaS10
import Derived.Test.YtojkeahffabifaaSGb
import Derived.Test.YtojkeahffabifaaC10e
import Derived.Test.YtojkeahffabifaaCGr
import Derived.Test.YtojkeahffabifaaW9s
namespace Go.Proofs.Ytojkeahffabifaa
open Go.RowKit
set_option linter.unusedVariables false
theorem stepK_false {n : Nat} {fr : Int} {rs : Nat → Int} {s : CS} {v : Int} (h : s.st < 3) (h0 : 0 ≤ s.st) :
    (stepK n fr rs false s v = stepK n fr rs true s v ∧ (stepK n fr rs true s v).1.st ≠ 3) ∨ ((stepK n fr rs true s v).1.st = 3 ∧ (stepK n fr rs true s v).2 = (2, 0) ∧ stepK n fr rs false s v = (⟨4, (stepK n fr rs true s v).1.start, (stepK n fr rs true s v).1.seen, (stepK n fr rs true s v).1.sk, (stepK n fr rs true s v).1.word⟩, 3, 0)) := by
  have h' : s.st = 0 ∨ s.st = 1 ∨ s.st = 2 := by omega
  rcases h' with h1 | h1 | h1
  · left
    unfold stepK
    simp only [if_pos h1]
    refine ⟨trivial, ?_⟩
    repeat' split
    all_goals simp
  · left
    unfold stepK
    simp only [if_neg (show ¬ s.st = 0 by omega), if_pos h1]
    refine ⟨trivial, ?_⟩
    repeat' split
    all_goals simp [h1]
  · unfold stepK
    simp only [if_neg (show ¬ s.st = 0 by omega), if_neg (show ¬ s.st = 1 by omega), if_pos h1]
    split
    · left; simp
    · split
      · left; simp [h1]
      · split
        · left; simp
        · right; simp
theorem stepK_st {n : Nat} {fr : Int} {rs : Nat → Int} {s : CS} {v : Int} (h : s.st < 3) (h0 : 0 ≤ s.st) :
    ((stepK n fr rs true s v).2.1 = 1 ∧ (stepK n fr rs true s v).2.2 = 0 ∧ (stepK n fr rs true s v).1.st < 4) ∨ ((stepK n fr rs true s v).2.1 = 2 ∧ (stepK n fr rs true s v).2.2 = 0 ∧ (stepK n fr rs true s v).1.st < 4) ∨ ((stepK n fr rs true s v).2.1 = 3 ∧ (stepK n fr rs true s v).2.2 = 0 ∧ (stepK n fr rs true s v).1.st = 4 ∧ s.st = 0 ∧ (stepK n fr rs true s v).1.seen = v) ∨ ((stepK n fr rs true s v).2.1 = 4 ∧ ((stepK n fr rs true s v).2.2 = 3 ∨ (stepK n fr rs true s v).2.2 = 4)) := by
  have h' : s.st = 0 ∨ s.st = 1 ∨ s.st = 2 := by omega
  rcases h' with h1 | h1 | h1
  · unfold stepK; simp only [if_pos h1]; repeat' split
    all_goals simp [h1]
  · unfold stepK; simp only [if_neg (show ¬ s.st = 0 by omega), if_pos h1]; repeat' split
    all_goals simp [h1]
  · unfold stepK; simp only [if_neg (show ¬ s.st = 0 by omega), if_neg (show ¬ s.st = 1 by omega), if_pos h1]; repeat' split
    all_goals simp_all
theorem stepK_kd3 {n : Nat} {fr : Int} {rs : Nat → Int} {s : CS} {v : Int} (h : (stepK n fr rs true s v).1.st = 3) : 0 ≤ s.seen → (stepK n fr rs true s v).1.seen = s.seen ∨ s.st = 0 := by
  intro hs
  by_cases h0 : s.st = 0
  · exact .inr h0
  · left
    revert h
    unfold stepK
    rw [if_neg h0]
    repeat' split
    all_goals simp
/-- What was read up to there is clear, unless the ring has run over. -/
def MClear (n : Nat) (fr : Int) (rs : Nat → Int) (g : GS) (seen : Int) : Prop := ¬ sharesG g.es fr seen rs ∨ (seen ≤ fr + n ∧ ∀ k : Int, fr < k → k ≤ seen → clearG n fr g.es rs k 8)
theorem MClear.mono {n : Nat} {fr : Int} {rs : Nat → Int} {g g' : GS} {seen : Int} (h : MClear n fr rs g seen) (h0 : 0 ≤ fr) (hx : Ext g.es g'.es) (hs : seen ≤ g.es.length) : MClear n fr rs g' seen := by
  rcases h with h | ⟨h1, h2⟩
  · exact .inl fun q => h (q.mono hx hs)
  · exact .inr ⟨h1, fun k k1 k2 => (h2 k k1 k2).mono hx (by omega)⟩
theorem MClear.clear {n : Nat} {fr : Int} {rs : Nat → Int} {g : GS} {seen : Int} (h : MClear n fr rs g seen) (h0 : 0 ≤ fr) (hs : seen = g.es.length) : ¬ sharesG g.es fr g.es.length rs := by
  rcases h with h | ⟨h1, h2⟩
  · rw [← hs]; exact h
  · rintro ⟨i, e, q1, q2, q3, j, q4, q5⟩
    rcases h2 (i + 1) q2 (by omega) with q | q
    · omega
    · exact q5 (q e (by rw [show ((i : Int) + 1 - 1).toNat = i by omega]; exact q1) j q4)
/-- A step of the check of one that publishes. -/
theorem SafeInv.stepF {size cells : Nat} {g : GS} {l : List Acc} (hg : GInv size cells g l) (hs : 1 ≤ size) (h16 : size ≤ 16) {fr : Int} {rs : Nat → Int} (hr : Wds rs) {s : CS} (h : SafeInv size fr rs g s) (h3 : s.st < 3) {v : Int} (hv : wordOf l (addrK size s).1 (addrK size s).2.1 (addrK size s).2.2 = v) {s' : CS} {kd er : Int} (hk : stepK size fr rs false s v = (s', kd, er)) :
    ((kd = 1 ∧ er = 0 ∧ g.done < g.es.length ∧ s'.st < 3 ∧ SafeInv size fr rs g s') ∨ (kd = 2 ∧ er = 0 ∧ s'.st < 3 ∧ SafeInv size fr rs g s') ∨ (kd = 3 ∧ er = 0 ∧ s'.st = 4 ∧ 0 ≤ s'.seen ∧ s'.seen ≤ g.es.length ∧ MClear size fr rs g s'.seen) ∨ (kd = 4 ∧ er = 3 ∧ sharesG g.es fr g.es.length rs) ∨ (kd = 4 ∧ er = 4 ∧ fr + size < g.es.length)) := by
  have hst0 : 0 ≤ s.st := by
    obtain ⟨_, _, _, _, h⟩ := h
    rcases h with h | h | h | h | h | h <;> omega
  have hse : s.st = 0 ∨ 0 ≤ s.seen := by
    obtain ⟨_, _, _, _, h⟩ := h
    rcases h with h | h | h | h | h | h <;> omega
  obtain ⟨s1, s2, s3, s4⟩ := SafeInv.step hg hs h16 hr h (by omega) true rfl
  have hn0 : s.st = 0 → v = g.es.length := by
    intro h0
    rw [← hv]
    unfold addrK
    rw [if_pos (.inl h0)]
    exact hg.newest
  rw [hv] at s1 s2 s3 s4
  have hF := stepK_false (n := size) (fr := fr) (rs := rs) (v := v) h3 hst0
  have hS := stepK_st (n := size) (fr := fr) (rs := rs) (v := v) h3 hst0
  have hK := stepK_kd3 (n := size) (fr := fr) (rs := rs) (s := s) (v := v)
  obtain ⟨⟨t, kt, et⟩, ht⟩ : ∃ t, stepK size fr rs true s v = t := ⟨_, rfl⟩
  rw [ht] at s1 s2 s3 s4 hF hS hK
  simp only at s1 s2 s3 s4 hF hS hK
  rw [hk] at hF
  rcases hF with ⟨hF, hn3⟩ | ⟨hF1, hF2, hF3⟩
  · obtain ⟨rfl, rfl, rfl⟩ : s' = t ∧ kd = kt ∧ er = et := by simpa [Prod.mk.injEq] using hF
    rcases hS with ⟨rfl, rfl, q⟩ | ⟨rfl, rfl, q⟩ | ⟨rfl, rfl, q, q0, qv⟩ | ⟨rfl, rfl | rfl⟩
    · exact .inl ⟨rfl, rfl, s4 rfl, by omega, s1⟩
    · exact .inr (.inl ⟨rfl, rfl, by omega, s1⟩)
    · have := hn0 q0
      obtain ⟨_, _, _, _, h⟩ := s1
      have h5 : s'.seen ≤ g.es.length ∧ ¬ sharesG g.es fr s'.seen rs := by
        rcases h with h | h | h | h | h | h
        · omega
        · omega
        · omega
        · omega
        · exact h.2
        · omega
      exact .inr (.inr (.inl ⟨rfl, rfl, q, by omega, h5.1, .inl h5.2⟩))
    · exact .inr (.inr (.inr (.inl ⟨rfl, rfl, s2 rfl⟩)))
    · exact .inr (.inr (.inr (.inr ⟨rfl, rfl, s3 rfl⟩)))
  · obtain ⟨rfl, rfl, rfl⟩ : s' = ⟨4, t.start, t.seen, t.sk, t.word⟩ ∧ kd = 3 ∧ er = 0 := by simpa [Prod.mk.injEq] using hF3
    obtain ⟨a, b, c, d, h⟩ := s1
    have h5 : t.seen ≤ g.es.length ∧ t.seen ≤ fr + size ∧ ∀ k : Int, fr < k → k ≤ t.seen → clearG size fr g.es rs k 8 := by
      rcases h with h | h | h | h | h | h
      · omega
      · omega
      · omega
      · exact h.2
      · omega
      · omega
    have h6 : 0 ≤ t.seen := by
      by_cases q : s.st = 0
      · obtain ⟨rfl, rfl⟩ : kt = 2 ∧ et = 0 := by simpa [Prod.mk.injEq] using hF2
        revert ht
        unfold stepK
        rw [if_pos q]
        intro ht
        have hvn := hn0 q
        split at ht
        · simp at ht
        · split at ht
          · simp at ht
          · simp only [Prod.mk.injEq] at ht
            rw [← ht.1]
            simp only
            omega
      · have q2 : 0 ≤ s.seen := by omega
        rcases hK hF1 q2 with q' | q'
        · omega
        · exact absurd q' q
    exact .inr (.inr (.inl ⟨rfl, rfl, rfl, h6, h5.1, .inr h5.2⟩))
/-- What was seen. -/
def MSeen (n : Nat) (fr : Int) (rs : Nat → Int) (last : Int) (g : GS) (seen : Int) : Prop := 0 ≤ seen ∧ seen < last ∧ seen ≤ g.es.length ∧ MClear n fr rs g seen
/-- commit's machine over a ring that grows. -/
def MInv (n : Nat) (fr : Int) (rs : Nat → Int) (last : Int) (mu : Bool) (g : GS) (m : MS) : Prop :=
  0 ≤ fr ∧ fr ≤ g.done ∧
  ((m.st = 0 ∧ m.s.st < 3 ∧ SafeInv n fr rs g m.s) ∨
   (m.st = 1 ∧ MSeen n fr rs last g m.seen ∧ needB mu m.seen = true) ∨
   (m.st = 2 ∧ MSeen n fr rs last g m.seen ∧ m.seen < g.done + n ∧ (mu = false → m.seen ≤ g.done)) ∨ m.st = 4)
theorem MInv.mono {n : Nat} {fr : Int} {rs : Nat → Int} {last : Int} {mu : Bool} {g g' : GS} {m : MS} (h : MInv n fr rs last mu g m) (hx : Ext g.es g'.es) (h2 : g.done ≤ g'.done) (h3 : g.laid ≤ g'.laid) : MInv n fr rs last mu g' m := by
  obtain ⟨a, b, h⟩ := h
  have hl := hx.1
  refine ⟨a, by omega, ?_⟩
  rcases h with ⟨k1, k2, k3⟩ | ⟨k1, ⟨k2, k3, k4, k5⟩, k6⟩ | ⟨k1, ⟨k2, k3, k4, k5⟩, k6, k7⟩ | k1
  · exact .inl ⟨k1, k2, k3.mono hx h2 h3⟩
  · exact .inr (.inl ⟨k1, ⟨k2, k3, by omega, k5.mono a hx k4⟩, k6⟩)
  · exact .inr (.inr (.inl ⟨k1, ⟨k2, k3, by omega, k5.mono a hx k4⟩, by omega, fun q => by have := k7 q; omega⟩))
  · exact .inr (.inr (.inr k1))
theorem MInv.new {n : Nat} {fr : Int} {rs : Nat → Int} {last : Int} {mu : Bool} {g : GS} {seen stamp : Int} (h0 : 0 ≤ fr) (h1 : fr ≤ g.done) : MInv n fr rs last mu g ⟨0, seen, stamp, ⟨0, fr, 0, 0, 0⟩⟩ :=
  ⟨h0, h1, .inl ⟨rfl, by simp, h0, h1, Int.le_refl _, by simp only; omega, .inl ⟨rfl, rfl⟩⟩⟩
/-- A look at a head. -/
theorem MSeen.look {n cells : Nat} {g : GS} {l : List Acc} (hg : GInv n cells g l) (hs : 1 ≤ n) (h16 : n ≤ 16) {fr : Int} {rs : Nat → Int} {last : Int} {mu : Bool} {seen : Int} (h : MSeen n fr rs last g seen) (hn : needB mu seen = true) :
    (lookB n mu seen (wordOf l 2 (slotZ (lookZ mu seen) n) 0) = true → seen < g.done + n ∧ (mu = false → seen ≤ g.done)) ∧ (lookB n mu seen (wordOf l 2 (slotZ (lookZ mu seen) n) 0) = false → g.done < g.es.length) := by
  obtain ⟨a, b, c, d⟩ := h
  have hd := hg.dl
  have hl := hg.ll
  obtain ⟨k, hk⟩ : ∃ k : Nat, seen = k := ⟨seen.toNat, by omega⟩
  subst hk
  cases mu
  · have h1 : 1 ≤ k := by
      unfold needB at hn
      simp at hn
      omega
    unfold lookB lookZ
    rw [if_neg (by simp), if_neg (by simp), slotZ_nat hs h16, hg.over hs h1 (by omega)]
    simp only [decide_eq_true_eq, decide_eq_false_iff_not]
    exact ⟨fun q => ⟨by omega, fun _ => by omega⟩, fun q => by omega⟩
  · unfold lookB lookZ
    rw [if_pos rfl, if_pos rfl]
    by_cases hf : k + 1 ≤ n
    · have : freeB (wordOf l 2 (slotZ ((k : Int) + 1) n) 0) ((k : Int) + 1) n = true := by
        unfold freeB
        simp only [Bool.and_eq_true, Bool.or_eq_true, decide_eq_true_eq]
        exact ⟨by omega, .inl (by omega)⟩
      rw [this]
      exact ⟨fun _ => ⟨by omega, fun q => by simp at q⟩, fun q => by simp at q⟩
    · obtain ⟨j, hj⟩ : ∃ j, k + 1 = j + n := ⟨k + 1 - n, by omega⟩
      have hsl : slotZ ((k : Int) + 1) n = ((j % n : Nat) : Int) := by
        rw [show (k : Int) + 1 = ((k + 1 : Nat) : Int) by omega, slotZ_nat hs h16, hj, Nat.add_mod_right]
      have hfr : freeB (wordOf l 2 (slotZ ((k : Int) + 1) n) 0) ((k : Int) + 1) n = decide (j ≤ g.done) := by
        unfold freeB
        rw [hsl, show (k : Int) + 1 - n = (j : Int) by omega, hg.over hs (by omega) (by omega)]
        have e1 : decide ((1 : Int) ≤ n ∧ (n : Int) ≤ 16) = true := by simp; omega
        have e2 : decide ((k : Int) + 1 ≤ n) = false := by simp; omega
        rw [e1, e2]
        simp
      rw [hfr]
      simp only [decide_eq_true_eq, decide_eq_false_iff_not]
      exact ⟨fun q => ⟨by omega, fun q => by simp at q⟩, fun q => by omega⟩
/-- Behind a check. -/
theorem MSeen.went {n : Nat} {fr : Int} {rs : Nat → Int} {last : Int} {mu : Bool} {g : GS} {seen stamp t : Int} {s : CS} (hs : 1 ≤ n) (a : 0 ≤ fr) (b : fr ≤ g.done) (h : MSeen n fr rs last g seen) (ht : t = if needB mu seen = true then 1 else 2) : MInv n fr rs last mu g ⟨t, seen, stamp, s⟩ := by
  refine ⟨a, b, ?_⟩
  by_cases hn : needB mu seen = true
  · rw [if_pos hn] at ht
    exact .inr (.inl ⟨ht, h, hn⟩)
  · rw [if_neg hn] at ht
    unfold needB at hn
    simp at hn
    exact .inr (.inr (.inl ⟨ht, h, by have := h.1; simp only; omega, fun _ => by simp only; omega⟩))
end Go.Proofs.Ytojkeahffabifaa
namespace Go.Proofs.Ytojkeahffabifaa
open Go.RowKit
set_option linter.unusedVariables false
/-- One of a family. -/
def ExH (Q : Nat → HP) : HP := fun w F => ∃ x, Q x w F
theorem ExH.good {Q : Nat → HP} (h : ∀ x, Good (Q x)) : Good (ExH Q) where
  chg := by
    rintro w w' F S ⟨x, hx⟩ hc hS
    exact ⟨x, (h x).chg hx hc hS⟩
  lt := by
    rintro w F b ⟨x, hx⟩ hb
    exact (h x).lt hx hb
theorem ExH.look {P : Program} {f : FuncId} {args : Array Value} {Q : Nat → HP} {v : Ending} (h : ∀ x, Looks P f args (Q x) v) : Looks P f args (ExH Q) v := by
  rintro w F ⟨x, hx⟩
  exact h x w F hx
theorem ExH.lift {P : Program} {f : FuncId} {args : Array Value} {Q : Nat → HP} {O : HP} {v : Ending} (h : ∀ x, Lifts P f args (Q x) O v) : Lifts P f args (ExH Q) O v := by
  rintro w F ⟨x, hx⟩
  exact h x w F hx
theorem ExH.to {P : Program} {f : FuncId} {args : Array Value} {Q : Nat → HP} {O : HP} {v : Ending} (x : Nat) (h : Lifts P f args O (Q x) v) : Lifts P f args O (ExH Q) v := by
  rintro w F hO
  refine (h w F hO).mono ?_
  rintro e w' ⟨rfl, hs⟩
  exact ⟨rfl, hs.imp fun _ h => ⟨x, h⟩⟩
/-- A third beside two, where what comes is one of a family. -/
theorem lift_swap2E {P : Program} {f : FuncId} {args : Array Value} {M M' G C D : HP} {C' D' : Nat → HP} {v : Ending} (gG : Good G) (h : Lifts P f args (Star (Star M C) D) (ExH fun x => Star (Star M' (C' x)) (D' x)) v) : Lifts P f args (Star (Star (Star M G) C) D) (ExH fun x => Star (Star (Star M' G) (C' x)) (D' x)) v := by
  intro w F hO
  refine ((h.left gG) w F ((hO.mapL fun _ h => h.swap).swap)).mono ?_
  rintro e w' ⟨rfl, hs⟩
  refine ⟨rfl, hs.imp fun F h => ?_⟩
  obtain ⟨FA, FB, ⟨x, ha⟩, hb, hF, hd⟩ := h
  have hq : Star (Star (Star M' (C' x)) (D' x)) G w' F := ⟨FA, FB, ha, hb, hF, hd⟩
  exact ⟨x, (Star.swap hq).mapL fun _ h => Star.swap h⟩
theorem GInv.sw {size cells : Nat} {g : GS} {l : List Acc} (h : GInv size cells g l) (th a b c u v : Int) : GInv size cells g (l ++ [swAcc th a b c u v false]) := by
  obtain ⟨h1, h2, h3, h4, h5, h6, h7, h8, h9, h10, h11⟩ := h
  exact ⟨by rw [wordOf_sw0]; exact h1, by rw [wordOf_sw0]; exact h2, by rw [wordOf_sw0]; exact h3, by rw [wordOf_sw0]; exact h4, by rw [wordOf_sw0]; exact h5, h6, h7, h8, h9, fun a b c => by rw [wordOf_sw0]; exact h10 a b c, h11⟩
theorem RingOk.sw {n cells : Nat} {g : GS} {l : List Acc} {k : Nat} (h : RingOk n cells g l k) (th a b c u v : Int) : RingOk n cells g (l ++ [swAcc th a b c u v false]) (k + 1) :=
  ⟨h.inv.sw _ _ _ _ _ _, by have := h.len; simp; omega, by have := h.many; omega⟩
/-- One that publishes, over a ring that grows. -/
abbrev ComQ (p gp x n cells : Nat) (l : List Acc) (g : GS) (last fr : Int) (rs : Nat → Int) (mu : Bool) (m : MS) (xc : Nat) : HP := Star (Star (MG p gp n cells l g) (ChkH xc n fr rs false m.s)) (ComH x xc n last fr rs mu m.st m.seen m.stamp)
abbrev ComO (p gp x n cells : Nat) (l : List Acc) (g : GS) (last fr : Int) (rs : Nat → Int) (mu : Bool) (m : MS) : HP := ExH (ComQ p gp x n cells l g last fr rs mu m)
theorem ComO.good (p gp x n cells : Nat) (l : List Acc) (g : GS) (last fr : Int) (rs : Nat → Int) (mu : Bool) (m : MS) : Good (ComO p gp x n cells l g last fr rs mu m) := ExH.good fun _ => ((MG.good _ _ _ _ _ _).star (BlkH.good _ _ _)).star (BlkH.good _ _ _)
/-- What a step has told. -/
def ComTold (n cells : Nat) (fr : Int) (rs : Nat → Int) (last : Int) (mu : Bool) (g : GS) (k : Nat) (l' : List Acc) (m' : MS) (kd er va : Int) : Prop :=
  (m'.st ≠ 3 ∧ MInv n fr rs last mu g m' ∧ RingOk n cells g l' (k + 1) ∧ va = 0 ∧ ((kd = 0 ∧ er = 0) ∨ (kd = 1 ∧ er = 0 ∧ g.done < g.es.length) ∨ (kd = 2 ∧ er = 0) ∨ (kd = 4 ∧ er = 3 ∧ sharesG g.es fr g.es.length rs) ∨ (kd = 4 ∧ er = 4 ∧ fr + n < g.es.length) ∨ (kd = 4 ∧ er = 6 ∧ last ≤ g.es.length))) ∨
  (m'.st = 3 ∧ kd = 3 ∧ er = 0 ∧ va = (g.es.length : Int) + 1 ∧ m'.stamp = (g.es.length : Int) + 1 ∧ wordOf l' 1 0 0 = (g.es.length : Int) + 1 ∧ GInv n cells g (l'.dropLast) ∧ ¬ sharesG g.es fr g.es.length rs ∧ (g.es.length : Int) < g.done + n ∧ (mu = false → g.done = g.es.length) ∧ (g.es.length : Int) + 1 ≤ last)
theorem com_lifts {p gp x n cells k : Nat} {l : List Acc} {g : GS} {last fr : Int} {rs : Nat → Int} {mu : Bool} {m : MS} (hn1 : 1 ≤ n) (hn2 : n ≤ 16) (hrs : Wds rs) (hl2 : last ≤ 1099511627776) (ho : RingOk n cells g l k) (hi : MInv n fr rs last mu g m) (hk : k ≤ 10000000) (th : Int) (xc : Nat) :
    ∃ kd er va bo l' m', Lifts Try.prog 12 #[.pointer (some ⟨x, 0, none⟩), .pointer (some ⟨p, 0, none⟩), .int .i64 th] (ComQ p gp x n cells l g last fr rs mu m xc) (ComO p gp x n cells l' g last fr rs mu m') (.returned (ansV kd er va bo)) ∧ ComTold n cells fr rs last mu g k l' m' kd er va := by
  have hl := ho.len
  have hm := ho.many
  have hb := ho.inv.big
  have hG := ho.inv
  obtain ⟨st, seen, stamp, s⟩ := m
  obtain ⟨a, b, h⟩ := hi
  have GG : Good (GrowH gp n g) := GrowH.good gp n g
  rcases h with ⟨rfl, h3, hS⟩ | ⟨rfl, hS, hN⟩ | ⟨rfl, hS, hR, hM⟩ | rfl
  · simp only at h3 hS
    obtain ⟨⟨a0, b0, c0⟩, ha⟩ : ∃ t, addrK n s = t := ⟨_, rfl⟩
    obtain ⟨v, hv⟩ : ∃ v, wordOf l a0 b0 c0 = v := ⟨_, rfl⟩
    obtain ⟨⟨s', kd, er⟩, hs⟩ : ∃ t, stepK n fr rs false s v = t := ⟨_, rfl⟩
    have hvI : I64 v := hv ▸ ho.inv.okw a0 b0 c0
    have hF := SafeInv.stepF ho.inv hn1 hn2 hrs hS h3 (v := v) (by rw [ha]; exact hv) hs
    have hL := chkStep_go p xc n cells l (by omega) hn1 hn2 fr a rs hrs false s th (hS.rng (by omega) (by omega)) a0 b0 c0 ha v hv hvI s' kd er hs
    rcases hF with ⟨rfl, rfl, q1, q2, q3⟩ | ⟨rfl, rfl, q2, q3⟩ | ⟨rfl, rfl, q1, q2, q3, q4⟩ | ⟨rfl, rfl, q1⟩ | ⟨rfl, rfl, q1⟩
    · refine ⟨_, _, _, _, _, ⟨0, seen, stamp, s'⟩, ExH.to xc (lift_swap2 GG (comStep_checks p x xc n cells l last fr rs mu 0 seen stamp s th rfl _ (KStep.good _ _ _ _ _ _ _ _ _ _ _ _ _ _) 1 0 true (comChecks_on p x xc n cells l _ last fr rs mu 0 seen stamp s s' th 1 0 true (by decide) (by decide) hL))), .inl ⟨by simp, ⟨a, b, .inl ⟨rfl, q2, q3⟩⟩, ho.ld _ _ _ _ _, rfl, .inr (.inl ⟨rfl, rfl, q1⟩)⟩⟩
    · refine ⟨_, _, _, _, _, ⟨0, seen, stamp, s'⟩, ExH.to xc (lift_swap2 GG (comStep_checks p x xc n cells l last fr rs mu 0 seen stamp s th rfl _ (KStep.good _ _ _ _ _ _ _ _ _ _ _ _ _ _) 2 0 true (comChecks_on p x xc n cells l _ last fr rs mu 0 seen stamp s s' th 2 0 true (by decide) (by decide) hL))), .inl ⟨by simp, ⟨a, b, .inl ⟨rfl, q2, q3⟩⟩, ho.ld _ _ _ _ _, rfl, .inr (.inr (.inl ⟨rfl, rfl⟩))⟩⟩
    · have hI : I64 s'.seen := ⟨by omega, by omega⟩
      by_cases hsp : s'.seen < 0 ∨ last ≤ s'.seen
      · refine ⟨_, _, _, _, _, ⟨4, s'.seen, stamp, s'⟩, ExH.to xc (lift_swap2 GG (comStep_checks p x xc n cells l last fr rs mu 0 seen stamp s th rfl _ (KStep.good _ _ _ _ _ _ _ _ _ _ _ _ _ _) 4 6 true (comChecks_spent p x xc n cells l _ last fr rs mu 0 seen stamp s s' th 0 true q1 hI hsp hL))), .inl ⟨by simp, ⟨a, b, .inr (.inr (.inr rfl))⟩, ho.ld _ _ _ _ _, rfl, .inr (.inr (.inr (.inr (.inr ⟨rfl, rfl, by omega⟩))))⟩⟩
      · obtain ⟨t, ht⟩ : ∃ t : Int, t = if needB mu s'.seen = true then 1 else 2 := ⟨_, rfl⟩
        have ht3 : t ≠ 3 := by rw [ht]; split <;> decide
        refine ⟨_, _, _, _, _, ⟨t, s'.seen, stamp, s'⟩, ExH.to xc (lift_swap2 GG (comStep_checks p x xc n cells l last fr rs mu 0 seen stamp s th rfl _ (KStep.good _ _ _ _ _ _ _ _ _ _ _ _ _ _) 2 0 true (comChecks_go p x xc n cells l _ last fr rs mu 0 seen stamp s s' th 0 true q1 hI hsp t ht hL))), .inl ⟨ht3, MSeen.went hn1 a b ⟨q2, by omega, q3, q4⟩ ht, ho.ld _ _ _ _ _, rfl, .inr (.inr (.inl ⟨rfl, rfl⟩))⟩⟩
    · refine ⟨_, _, _, _, _, ⟨4, seen, stamp, s'⟩, ExH.to xc (lift_swap2 GG (comStep_checks p x xc n cells l last fr rs mu 0 seen stamp s th rfl _ (KStep.good _ _ _ _ _ _ _ _ _ _ _ _ _ _) 4 3 true (comChecks_fail p x xc n cells l _ last fr rs mu 0 seen stamp s s' th 3 true hL))), .inl ⟨by simp, ⟨a, b, .inr (.inr (.inr rfl))⟩, ho.ld _ _ _ _ _, rfl, .inr (.inr (.inr (.inl ⟨rfl, rfl, q1⟩)))⟩⟩
    · refine ⟨_, _, _, _, _, ⟨4, seen, stamp, s'⟩, ExH.to xc (lift_swap2 GG (comStep_checks p x xc n cells l last fr rs mu 0 seen stamp s th rfl _ (KStep.good _ _ _ _ _ _ _ _ _ _ _ _ _ _) 4 4 true (comChecks_fail p x xc n cells l _ last fr rs mu 0 seen stamp s s' th 4 true hL))), .inl ⟨by simp, ⟨a, b, .inr (.inr (.inr rfl))⟩, ho.ld _ _ _ _ _, rfl, .inr (.inr (.inr (.inr (.inl ⟨rfl, rfl, q1⟩))))⟩⟩
  · simp only at hS hN
    have hLK := hS.look ho.inv hn1 hn2 (mu := mu) hN
    have hs0 := hS.1
    have hs1 := hS.2.2.1
    cases hb2 : lookB n mu seen (wordOf l 2 (slotZ (lookZ mu seen) n) 0)
    · have q := hLK.2 hb2
      cases mu
      · exact ⟨_, _, _, _, _, ⟨1, seen, stamp, s⟩, ExH.to xc (lift_swap2 GG (comStep_all_wait p x xc n cells l last fr rs 1 seen stamp s th (by omega) hn1 hn2 hs0 (by omega) rfl hb2)), .inl ⟨by simp, ⟨a, b, .inr (.inl ⟨rfl, hS, hN⟩)⟩, ho.ld _ _ _ _ _, rfl, .inr (.inl ⟨rfl, rfl, q⟩)⟩⟩
      · exact ⟨_, _, _, _, _, ⟨1, seen, stamp, s⟩, ExH.to xc (lift_swap2 GG (comStep_slot_wait p x xc n cells l last fr rs 1 seen stamp s th (by omega) hn1 hn2 hs0 (by omega) rfl hb2)), .inl ⟨by simp, ⟨a, b, .inr (.inl ⟨rfl, hS, hN⟩)⟩, ho.ld _ _ _ _ _, rfl, .inr (.inl ⟨rfl, rfl, q⟩)⟩⟩
    · obtain ⟨q1, q2⟩ := hLK.1 hb2
      cases mu
      · exact ⟨_, _, _, _, _, ⟨2, seen, stamp, s⟩, ExH.to xc (lift_swap2 GG (comStep_all_go p x xc n cells l last fr rs 1 seen stamp s th (by omega) hn1 hn2 hs0 (by omega) rfl hb2)), .inl ⟨by simp, ⟨a, b, .inr (.inr (.inl ⟨rfl, hS, q1, q2⟩))⟩, ho.ld _ _ _ _ _, rfl, .inr (.inr (.inl ⟨rfl, rfl⟩))⟩⟩
      · exact ⟨_, _, _, _, _, ⟨2, seen, stamp, s⟩, ExH.to xc (lift_swap2 GG (comStep_slot_go p x xc n cells l last fr rs 1 seen stamp s th (by omega) hn1 hn2 hs0 (by omega) rfl hb2)), .inl ⟨by simp, ⟨a, b, .inr (.inr (.inl ⟨rfl, hS, q1, q2⟩))⟩, ho.ld _ _ _ _ _, rfl, .inr (.inr (.inl ⟨rfl, rfl⟩))⟩⟩
  · simp only at hS hR hM
    have hs0 := hS.1
    have hs1 := hS.2.2.1
    have hw := ho.inv.newest
    have hdl := ho.inv.dl
    have hll := ho.inv.ll
    by_cases he : (g.es.length : Int) = seen
    · refine ⟨_, _, _, _, _, ⟨3, seen, seen + 1, s⟩, ExH.to xc (lift_swap2 GG (comStep_yes p x xc n cells l last fr rs mu 2 seen stamp s th (by omega) hs0 (by omega) rfl (hw.trans he))), .inr ⟨rfl, rfl, rfl, by omega, by simp only; omega, ?_, by simpa using hG, hS.2.2.2.clear a he.symm, by omega, fun q => by have := hM q; omega, by have := hS.2.1; omega⟩⟩
      rw [wordOf_sw1, upd_eq, he]
    · refine ⟨_, _, _, _, _, ⟨0, seen, stamp, ⟨0, fr, 0, 0, 0⟩⟩, lift_swap2E GG (comStep_no p x xc n cells l last fr rs mu 2 seen stamp s th (by omega) hn1 hn2 a hs0 (by omega) rfl _ hw he), .inl ⟨by simp, MInv.new a b, ho.sw _ _ _ _ _ _, rfl, .inr (.inr (.inl ⟨rfl, rfl⟩))⟩⟩
  · exact ⟨_, _, _, _, _, ⟨4, seen, stamp, s⟩, ExH.to xc (lift_swap2 GG (comStep_none p x xc n cells l last fr rs mu 4 seen stamp s th (by decide))), .inl ⟨by simp, ⟨a, b, .inr (.inr (.inr rfl))⟩, ho.more, rfl, .inl ⟨rfl, rfl⟩⟩⟩
theorem com_step {w0 wr : World} {p gp x n cells k : Nat} {l : List Acc} {g : GS} {last fr : Int} {rs : Nat → Int} {mu : Bool} {m : MS} {B : HP} (gb : Good B) (hn1 : 1 ≤ n) (hn2 : n ≤ 16) (hrs : Wds rs) (hl2 : last ≤ 1099511627776) (h : AtW w0 (Star (ComO p gp x n cells l g last fr rs mu m) B) wr) (ho : RingOk n cells g l k) (hi : MInv n fr rs last mu g m) (hk : k ≤ 10000000) :
    Calls Try.prog 12 #[.pointer (some ⟨x, 0, none⟩), .pointer (some ⟨p, 0, none⟩), .int .i64 1] wr fun e w' => ∃ kd er va bo l' m', e = .returned (ansV kd er va bo) ∧ AtW w0 (Star (ComO p gp x n cells l' g last fr rs mu m') B) w' ∧ ComTold n cells fr rs last mu g k l' m' kd er va := by
  obtain ⟨F, ⟨FA, FB, ⟨xc, ha⟩, hb, hF, hd⟩, h2, h3⟩ := h
  obtain ⟨kd, er, va, bo, l', m', hL, hT⟩ := com_lifts (x := x) hn1 hn2 hrs hl2 ho hi hk 1 xc
  refine ((Lifts.left gb hL).at ⟨F, ⟨FA, FB, ha, hb, hF, hd⟩, h2, h3⟩).mono ?_
  rintro e w' ⟨rfl, h⟩
  exact ⟨kd, er, va, bo, l', m', rfl, h, hT⟩
/-- An act beside one that publishes. -/
theorem act_com {p gp x n cells k : Nat} {l : List Acc} {g : GS} {last fr : Int} {rs : Nat → Int} {mu : Bool} {m : MS} {B : HP} (gb : Good B) {w0 wr : World} (h : AtW w0 (Star (ComO p gp x n cells l g last fr rs mu m) B) wr) (ho : RingOk n cells g l k) (hs1 : 1 ≤ n) (hs2 : n ≤ 16) (hc1 : 1 ≤ cells) (hc2 : cells ≤ 1000000) (hk : k ≤ 10000000) (kind : Int) (a : Option Addr) (len cap : Nat) (q : Nat → Nat → Int) (hl : len ≤ 9223372036854775807) (hg : Grid wr a len 2 q) :
    Calls Try.prog 9 #[.pointer (some ⟨gp, 0, none⟩), .pointer (some ⟨p, 0, none⟩), .int .i64 kind, .slice a len cap] wr fun e w' => e = .returned (.tuple #[]) ∧ AtW w0 (Star (ComO p gp x n cells (actG n cells g l kind (fitZ cells q (min len 4))).2 (actG n cells g l kind (fitZ cells q (min len 4))).1 last fr rs mu m) B) w' := by
  refine at_left gb h fun F hF => ?_
  obtain ⟨xc, FA, FB, ⟨FC, FD, hc, hd, hF1, hd1⟩, hb, hF', hd'⟩ := hF
  refine (act_any p gp n cells l g ho.inv hs1 hs2 hc1 hc2 (by have := ho.len; omega) (by have := ho.many; omega) kind a len cap q hl wr FC hg hc).mono ?_
  rintro e w' ⟨rfl, hs⟩
  exact ⟨rfl, ((hs.left (BlkH.good _ _ _) hd hF1 hd1).left (BlkH.good _ _ _) hb hF' hd').imp fun _ h => ⟨xc, h⟩⟩
end Go.Proofs.Ytojkeahffabifaa
