/- Plain: what the reference's machine does next hangs on what it loaded. -/
import Derived.Test.YtlmnljijpgpmiaaS11
namespace Go.Proofs.Ytlmnljijpgpmiaa
open Go.RowKit
/-- A loaded number is taken up: as the machine does, but that a head that isn't complete is laid. -/
def repK (n : Nat) (st : Int) (s : Nat → Int) (b : BK) (v : Int) : BK :=
  if b.nx = 2 then if overB v b.sp = true then ovrK st b else wdgK n st s b 0
  else if b.nx = 3 then
    if bits .and .u64 (IntKind.u64.wrap v) (s b.word.toNat) ≠ 0 then { b with nx := 4 } else wdgK n st s b (b.word.toNat + 1)
  else if b.nx = 4 then ovrK st b
  else b
/-- Behind the head's store, with one cell left for ever. -/
def rep0 (n : Nat) (mu : Bool) (st : Int) : BK :=
  if knK n mu st = true then ⟨1, 8, 0, 0, true, 5⟩ else oldK n st ⟨1, 8, 0, 0, false, 1⟩ (st - 1)
def RepB (n : Nat) (mu : Bool) (st : Int) (s : Nat → Int) (L : List Int) : BK := L.foldl (repK n st s) (rep0 n mu st)
theorem RepB_snoc (n : Nat) (mu : Bool) (st : Int) (s : Nat → Int) (L : List Int) (v : Int) : RepB n mu st s (L ++ [v]) = repK n st s (RepB n mu st s L) v := by
  unfold RepB; rw [List.foldl_append]; rfl
theorem rep_thr (n : Nat) (st : Int) (s : Nat → Int) (b : BK) (h : b.nx = 5) : ∀ L : List Int, L.foldl (repK n st s) b = b
  | [] => rfl
  | v :: L => by
    have e : repK n st s b v = b := by
      unfold repK; rw [if_neg (by omega), if_neg (by omega), if_neg (by omega)]
    rw [List.foldl_cons, e]
    exact rep_thr n st s b h L
/-- How the two machines stand to one another. -/
def BRel (n : Nat) (mu : Bool) (st : Int) (s : Nat → Int) (W : List (Int × Int)) (b : BK) (k : Nat) (L : List Int) (sn : Bool) : Prop :=
  (b.nx = 1 ∧ k = b.laid ∧ b.laid ≤ 8 ∧ L = [] ∧ sn = false ∧ b.left = W.length ∧ b.known = knK n mu st) ∨
  ((b.nx = 2 ∨ b.nx = 3 ∨ b.nx = 4) ∧ k = 9 ∧ sn = false ∧ b.left = W.length ∧ b.laid = 8 ∧ b.known = false ∧ RepB n mu st s L = { b with left := 1 }) ∨
  ((b.nx = 5 ∨ b.nx = 6 ∨ b.nx = 7) ∧ b.left ≤ W.length ∧ k = 9 + (W.length - b.left) ∧ b.nx = (rdyK b).nx ∧ (RepB n mu st s L).nx = 5 ∧ b.known = ((RepB n mu st s L).known || sn) ∧ (sn = true → b.left = 0)) ∨
  (b.nx = 0 ∧ k = W.length + 10 ∧ b.left = 0)
theorem oldK_left (n : Nat) (st : Int) (b : BK) (sp : Int) (h : (oldK n st b sp).nx ≠ 2) : oldK n st b sp = rdyK { b with sp := sp } := by
  unfold oldK at h ⊢
  split
  · rfl
  · rename_i hc
    rw [if_neg hc] at h
    exact absurd rfl h
/-- The numbers behind the looks: with all cells left, and with one. -/
def Alike (b c : BK) : Prop := (c = { b with left := 1 } ∧ (b.nx = 2 ∨ b.nx = 3 ∨ b.nx = 4) ∧ b.known = false) ∨ (c.nx = 5 ∧ b.nx = (rdyK b).nx ∧ c.known = b.known ∧ (b.nx = 5 ∨ b.nx = 6 ∨ b.nx = 7))
theorem rdyK_nx (b : BK) : (rdyK b).nx = 5 ∨ (rdyK b).nx = 6 ∨ (rdyK b).nx = 7 := by
  unfold rdyK
  show (if 0 < b.left then 5 else if b.known = true then 7 else 6) = 5 ∨ _ ∨ _
  split
  · exact .inl rfl
  · split
    · exact .inr (.inr rfl)
    · exact .inr (.inl rfl)
theorem alike_rdy (b c : BK) (hc : 0 < c.left) (hk : c.known = b.known) : Alike (rdyK b) (rdyK c) := by
  refine .inr ⟨?_, rfl, hk, rdyK_nx b⟩
  unfold rdyK
  exact if_pos hc
theorem alike_old (n : Nat) (st : Int) (b : BK) (sp : Int) (hk : b.known = false) : Alike (oldK n st b sp) (oldK n st { b with left := 1 } sp) := by
  unfold oldK
  by_cases h : sp < 1 ∨ sp ≤ st - n
  · rw [if_pos h, if_pos h]
    exact alike_rdy _ _ Nat.one_pos rfl
  · rw [if_neg h, if_neg h]
    exact .inl ⟨rfl, .inl rfl, hk⟩
theorem alike_wdg (n : Nat) (st : Int) (s : Nat → Int) (b : BK) (k : Nat) (hk : b.known = false) : Alike (wdgK n st s b k) (wdgK n st s { b with left := 1 } k) := by
  unfold wdgK
  by_cases h : nextW s k < 8
  · rw [if_pos h, if_pos h]
    exact .inl ⟨rfl, .inr (.inl rfl), hk⟩
  · rw [if_neg h, if_neg h]
    exact alike_old n st { b with word := 8 } (b.sp - 1) hk
theorem alike_ovr (st : Int) (b : BK) : Alike (ovrK st b) (ovrK st { b with left := 1 }) := alike_rdy _ _ Nat.one_pos rfl
/-- A load that doesn't wait, taken up by both. -/
theorem alike_step (n : Nat) (st : Int) (s : Nat → Int) (b : BK) (v : Int) (hk : b.known = false) (hx : b.nx = 2 ∨ b.nx = 3 ∨ b.nx = 4) (hm : (stepB11 n st s b v).2 ≠ 1) : (stepB11 n st s b v).2 = 2 ∧ Alike (stepB11 n st s b v).1 (repK n st s { b with left := 1 } v) := by
  unfold stepB11 at hm ⊢
  unfold repK
  rw [if_neg (by omega)] at hm ⊢
  rcases hx with h | h | h
  · rw [if_pos h] at hm ⊢
    rw [if_pos (show (BK.mk 1 b.laid b.sp b.word b.known b.nx).nx = 2 from h)]
    by_cases ho : overB v b.sp = true
    · rw [if_pos ho]
      rw [if_pos (show overB v (BK.mk 1 b.laid b.sp b.word b.known b.nx).sp = true from ho)]
      exact ⟨rfl, alike_ovr st b⟩
    · rw [if_neg ho] at hm ⊢
      rw [if_neg (show ¬ overB v (BK.mk 1 b.laid b.sp b.word b.known b.nx).sp = true from ho)]
      by_cases hl : laidB v b.sp = true
      · rw [if_pos hl]
        exact ⟨rfl, alike_wdg n st s b 0 hk⟩
      · rw [if_neg hl] at hm
        exact absurd rfl hm
  · rw [if_neg (by omega), if_pos h] at hm ⊢
    rw [if_neg (show ¬ (BK.mk 1 b.laid b.sp b.word b.known b.nx).nx = 2 by show ¬ b.nx = 2; omega), if_pos (show (BK.mk 1 b.laid b.sp b.word b.known b.nx).nx = 3 from h)]
    by_cases hb : bits .and .u64 (IntKind.u64.wrap v) (s b.word.toNat) ≠ 0
    · rw [if_pos hb]
      rw [if_pos (show bits .and .u64 (IntKind.u64.wrap v) (s (BK.mk 1 b.laid b.sp b.word b.known b.nx).word.toNat) ≠ 0 from hb)]
      exact ⟨rfl, .inl ⟨rfl, .inr (.inr rfl), hk⟩⟩
    · rw [if_neg hb]
      rw [if_neg (show ¬ bits .and .u64 (IntKind.u64.wrap v) (s (BK.mk 1 b.laid b.sp b.word b.known b.nx).word.toNat) ≠ 0 from hb)]
      exact ⟨rfl, alike_wdg n st s b _ hk⟩
  · rw [if_neg (by omega), if_neg (by omega), if_pos h] at hm ⊢
    rw [if_neg (show ¬ (BK.mk 1 b.laid b.sp b.word b.known b.nx).nx = 2 by show ¬ b.nx = 2; omega), if_neg (show ¬ (BK.mk 1 b.laid b.sp b.word b.known b.nx).nx = 3 by show ¬ b.nx = 3; omega), if_pos (show (BK.mk 1 b.laid b.sp b.word b.known b.nx).nx = 4 from h)]
    by_cases ho : overB v b.sp = true
    · rw [if_pos ho]
      exact ⟨rfl, alike_ovr st b⟩
    · rw [if_neg ho] at hm
      exact absurd rfl hm
end Go.Proofs.Ytlmnljijpgpmiaa
