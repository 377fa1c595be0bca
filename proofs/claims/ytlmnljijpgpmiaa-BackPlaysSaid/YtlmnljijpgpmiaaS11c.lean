/- Plain: the cells hold what was written; how many steps are left. -/
import Derived.Test.YtlmnljijpgpmiaaS11
import Derived.Test.YtlmnljijpgpmiaaG0
namespace Go.Proofs.Ytlmnljijpgpmiaa
open Go.RowKit
set_option linter.unusedVariables false
/-- The last value that a list writes to a cell. -/
def lastV (W : List (Int × Int)) (c : Int) : Int := W.foldl (fun v x => if x.1 = c then x.2 else v) 0
theorem lastV_snoc (W : List (Int × Int)) (y : Int × Int) (c : Int) : lastV (W ++ [y]) c = if y.1 = c then y.2 else lastV W c := by unfold lastV; rw [List.foldl_append]; rfl
theorem wrK_at {W : List (Int × Int)} {b : BK} (h0 : 0 < b.left) (h1 : b.left ≤ W.length) : W[W.length - b.left]? = some (wrK W b) := by
  unfold wrK
  obtain ⟨v, hv⟩ : ∃ v, W[W.length - b.left]? = some v := ⟨_, List.getElem?_eq_getElem (by omega)⟩
  rw [hv]; rfl
theorem take_wr {W : List (Int × Int)} {b : BK} (h0 : 0 < b.left) (h1 : b.left ≤ W.length) : W.take (W.length - (b.left - 1)) = W.take (W.length - b.left) ++ [wrK W b] := by
  rw [show W.length - (b.left - 1) = (W.length - b.left) + 1 by omega, List.take_add_one, wrK_at h0 h1]; rfl
/-- Does a step store? -/
def stK (b : BK) : Bool := b.nx == 1 || b.nx == 5 || b.nx == 7
theorem accK_st {n : Nat} {st : Int} {s : Nat → Int} {W : List (Int × Int)} {b : BK} {th v : Int} (h : b.nx = 1 ∨ b.nx = 5 ∨ b.nx = 7) : accK n st s W b th v = stAcc th (addrK11 n st W b).1 (addrK11 n st W b).2.1 (addrK11 n st W b).2.2 (valK st s W b) := if_pos h
theorem accK_ld {n : Nat} {st : Int} {s : Nat → Int} {W : List (Int × Int)} {b : BK} {th v : Int} (h : ¬ (b.nx = 1 ∨ b.nx = 5 ∨ b.nx = 7)) : accK n st s W b th v = ldAcc th (addrK11 n st W b).1 (addrK11 n st W b).2.1 (addrK11 n st W b).2.2 v := if_neg h
/-- What a step makes of the words. -/
theorem wordOf_step {n : Nat} {st : Int} {s : Nat → Int} {W : List (Int × Int)} {b : BK} (hx : 1 ≤ b.nx) (hx7 : b.nx ≤ 7) (th v : Int) (l : List Acc) :
    wordOf (l ++ [accK n st s W b th v]) =
      if b.nx = 1 then if b.laid < 8 then upd (wordOf l) 3 (slotZ st n) (b.laid : Nat) (wrap64 (s b.laid)) else upd (wordOf l) 2 (slotZ st n) 0 (headZ st false)
      else if b.nx = 5 then upd (wordOf l) 4 (wrK W b).1 0 (wrK W b).2
      else if b.nx = 7 then upd (wordOf l) 2 (slotZ st n) 0 (headZ st true)
      else wordOf l := by
  by_cases h1 : b.nx = 1
  · rw [if_pos h1, accK_st (.inl h1), wordOf_st]
    unfold addrK11 valK
    rw [if_pos h1, if_pos h1]
    by_cases h8 : b.laid < 8
    · rw [if_pos h8, if_pos h8, if_pos h8]
    · rw [if_neg h8, if_neg h8, if_neg h8]
  · rw [if_neg h1]
    by_cases h5 : b.nx = 5
    · rw [if_pos h5, accK_st (.inr (.inl h5)), wordOf_st]
      unfold addrK11 valK
      simp only [h5]
      simp
    · rw [if_neg h5]
      by_cases h7 : b.nx = 7
      · rw [if_pos h7, accK_st (.inr (.inr h7)), wordOf_st]
        unfold addrK11 valK
        simp only [h7]
        simp
      · rw [if_neg h7, accK_ld (by omega), wordOf_ld]
theorem rdyK_left (b : BK) : (rdyK b).left = b.left := rfl
theorem oldK_left' (n : Nat) (st : Int) (b : BK) (sp : Int) : (oldK n st b sp).left = b.left := by unfold oldK; split <;> rfl
theorem wdgK_left (n : Nat) (st : Int) (s : Nat → Int) (b : BK) (k : Nat) : (wdgK n st s b k).left = b.left := by
  unfold wdgK; split
  · rfl
  · exact oldK_left' ..
theorem ovrK_left (st : Int) (b : BK) : (ovrK st b).left = b.left := rfl
theorem step_left {n : Nat} {st : Int} {s : Nat → Int} {b : BK} {v : Int} : (stepB11 n st s b v).1.left = if b.nx = 5 then b.left - 1 else b.left := by
  unfold stepB11
  by_cases h5 : b.nx = 5
  · simp [h5]; rfl
  · rw [if_neg h5]
    by_cases h1 : b.nx = 1
    · rw [if_pos h1]
      split
      · rfl
      · split
        · rfl
        · exact oldK_left' ..
    rw [if_neg h1]
    by_cases h2 : b.nx = 2
    · rw [if_pos h2]
      split
      · rfl
      · split
        · exact wdgK_left ..
        · rfl
    rw [if_neg h2]
    by_cases h3 : b.nx = 3
    · rw [if_pos h3]
      split
      · rfl
      · exact wdgK_left ..
    rw [if_neg h3]
    by_cases h4 : b.nx = 4
    · rw [if_pos h4]
      split <;> rfl
    rw [if_neg h4, if_neg h5]
    split
    · split <;> rfl
    · rfl
/-- The machine alone, beside those who touch no cells and not its slot. -/
structure EInv (n : Nat) (st : Int) (s : Nat → Int) (W : List (Int × Int)) (b : BK) (l : List Acc) : Prop where
  ok : BKOk n st s W b
  cells : ∀ c, wordOf l 4 c 0 = lastV (W.take (W.length - b.left)) c
  fin : b.nx = 0 → wordOf l 2 (slotZ st n) 0 = headZ st true
  okw : OkW l
theorem rdyK_ne (b : BK) : (rdyK b).nx ≠ 0 := by
  unfold rdyK
  show (if 0 < b.left then 5 else if b.known = true then 7 else 6) ≠ 0
  split
  · decide
  · split <;> decide
theorem oldK_ne (n : Nat) (st : Int) (b : BK) (sp : Int) : (oldK n st b sp).nx ≠ 0 := by
  unfold oldK; split
  · exact rdyK_ne _
  · show (2 : Nat) ≠ 0; decide
theorem wdgK_ne (n : Nat) (st : Int) (s : Nat → Int) (b : BK) (k : Nat) : (wdgK n st s b k).nx ≠ 0 := by
  unfold wdgK; split
  · show (3 : Nat) ≠ 0; decide
  · exact oldK_ne _ _ _ _
theorem step_fin {n : Nat} {st : Int} {s : Nat → Int} {b : BK} {v : Int} (h7 : b.nx ≠ 7) (h0 : b.nx ≠ 0) (hx : b.nx ≤ 7) : (stepB11 n st s b v).1.nx ≠ 0 := by
  unfold stepB11
  by_cases h1 : b.nx = 1
  · rw [if_pos h1]
    split
    · exact h0
    · split
      · exact rdyK_ne _
      · exact oldK_ne _ _ _ _
  rw [if_neg h1]
  by_cases h2 : b.nx = 2
  · rw [if_pos h2]
    split
    · exact rdyK_ne _
    · split
      · exact wdgK_ne _ _ _ _ _
      · exact h0
  rw [if_neg h2]
  by_cases h3 : b.nx = 3
  · rw [if_pos h3]
    split
    · show (4 : Nat) ≠ 0; decide
    · exact wdgK_ne _ _ _ _ _
  rw [if_neg h3]
  by_cases h4 : b.nx = 4
  · rw [if_pos h4]
    split
    · exact rdyK_ne _
    · exact h0
  rw [if_neg h4]
  by_cases h5 : b.nx = 5
  · rw [if_pos h5]; exact rdyK_ne _
  rw [if_neg h5, if_pos (by omega)]
  split
  · exact rdyK_ne _
  · exact h0
theorem EInv.new (n : Nat) (hn : 1 ≤ n) (mu : Bool) (st : Int) (hs : 1 ≤ st) (s : Nat → Int) (W : List (Int × Int)) : EInv n st s W (newK n mu st W) [] where
  ok := BKOk.new n hn mu st hs s W
  cells := by
    intro c
    show wordOf [] 4 c 0 = lastV (W.take (W.length - W.length)) c
    rw [Nat.sub_self]; rfl
  fin := by intro h; change 1 = 0 at h; omega
  okw := okW_nil
/-- A step. -/
theorem EInv.step {n : Nat} {st : Int} {s : Nat → Int} {W : List (Int × Int)} {b : BK} {l : List Acc} (h : EInv n st s W b l) (h0 : b.nx ≠ 0) (hW : ∀ y ∈ W, I64 y.2) (th v : Int) : EInv n st s W (stepB11 n st s b v).1 (l ++ [accK n st s W b th v]) := by
  have hx := h.ok.nx
  have hw := wordOf_step (n := n) (st := st) (s := s) (W := W) (b := b) (by omega) hx th v l
  refine ⟨h.ok.step v, ?_, ?_, ?_⟩
  · intro c
    rw [hw, step_left]
    by_cases h1 : b.nx = 1
    · rw [if_pos h1, if_neg (show ¬ b.nx = 5 by omega)]
      rw [← h.cells c]
      split <;> (unfold upd; rw [if_neg (by omega)])
    · rw [if_neg h1]
      by_cases h5 : b.nx = 5
      · rw [if_pos h5, if_pos h5, take_wr (h.ok.wr h5) h.ok.left, lastV_snoc, ← h.cells c]
        unfold upd
        by_cases e : (wrK W b).1 = c
        · rw [if_pos ⟨rfl, e.symm, rfl⟩, if_pos e]
        · rw [if_neg (fun k => e k.2.1.symm), if_neg e]
      · rw [if_neg h5, if_neg h5, ← h.cells c]
        split
        · unfold upd; rw [if_neg (by omega)]
        · rfl
  · intro hf
    by_cases h7 : b.nx = 7
    · rw [hw, if_neg (by omega), if_neg (by omega), if_pos h7]
      unfold upd; rw [if_pos ⟨rfl, rfl, rfl⟩]
    · exact absurd hf (step_fin h7 h0 hx)
  · intro a bb c
    rw [hw]
    have hr := headZ_range st
    split
    · split
      · unfold upd; split
        · exact wrap64_range _
        · exact h.okw ..
      · unfold upd; split
        · exact hr false
        · exact h.okw ..
    · split
      · unfold upd; split
        · rename_i h5 _
          exact hW _ (List.mem_of_getElem? (wrK_at (h.ok.wr h5) h.ok.left))
        · exact h.okw ..
      · split
        · unfold upd; split
          · exact hr true
          · exact h.okw ..
        · exact h.okw ..
/-- Another one stores. -/
theorem EInv.put {n cells : Nat} {st : Int} {s : Nat → Int} {W : List (Int × Int)} {b : BK} {l : List Acc} (h : EInv n st s W b l) (th k i j v : Int) (hv : I64 v) (hk : k = 2 ∨ k = 3) (hi : i ≠ slotZ st n) : EInv n st s W b (putL n cells l th k i j v) := by
  unfold putL
  split
  · refine ⟨h.ok, fun c => ?_, fun hf => ?_, okW_st h.okw th k i j v hv⟩
    · rw [wordOf_st, ← h.cells c]
      unfold upd; rw [if_neg (by omega)]
    · rw [wordOf_st, ← h.fin hf]
      unfold upd; rw [if_neg (fun e => hi e.2.1.symm)]
  · exact h
/-- How many steps are left, if none waits. -/
def muK (st : Int) (b : BK) : Nat :=
  if b.nx = 1 then (9 - b.laid) + (if b.known = true then b.left + 1 else b.left + 2)
  else if b.nx = 2 ∨ b.nx = 4 then (if b.sp = st - 1 then b.left + 2 else b.left + 3)
  else if b.nx = 3 then 11 - b.word.toNat + b.left
  else if b.nx = 5 then b.left + (if b.known = true then 1 else 2)
  else if b.nx = 6 then 2
  else if b.nx = 7 then 1 else 0
theorem muK_rdy (st : Int) (b : BK) : muK st (rdyK b) = b.left + (if b.known = true then 1 else 2) := by
  unfold rdyK
  by_cases hl : 0 < b.left
  · rw [if_pos hl]; rfl
  · rw [if_neg hl]
    have : b.left = 0 := by omega
    by_cases hk : b.known = true
    · rw [if_pos hk, if_pos hk, this]; rfl
    · rw [if_neg hk, if_neg hk, this]; rfl
theorem muK_old (n : Nat) (st : Int) (b : BK) (sp : Int) (hk : b.known = false) : muK st (oldK n st b sp) ≤ (if sp = st - 1 then b.left + 2 else b.left + 3) := by
  unfold oldK
  split
  · rw [muK_rdy]
    show b.left + (if b.known = true then 1 else 2) ≤ _
    rw [hk]; simp; split <;> omega
  · exact Nat.le_refl _
theorem muK_wdg (n : Nat) (st : Int) (s : Nat → Int) (b : BK) (k : Nat) (hk8 : k ≤ 8) (hk : b.known = false) (hsp : b.sp < st) : muK st (wdgK n st s b k) ≤ 11 - k + b.left := by
  have hge := nextW_ge s k hk8
  unfold wdgK
  split
  · rename_i h
    show 11 - ((nextW s k : Nat) : Int).toNat + b.left ≤ _
    omega
  · refine Nat.le_trans (muK_old n st { b with word := 8 } (b.sp - 1) hk) ?_
    rw [if_neg (by omega)]
    show b.left + 3 ≤ _
    omega
theorem muK_ovr (st : Int) (b : BK) : muK st (ovrK st b) + 1 ≤ (if b.sp = st - 1 then b.left + 2 else b.left + 3) := by
  unfold ovrK
  rw [muK_rdy]
  show b.left + (if (b.sp == st - 1) = true then 1 else 2) + 1 ≤ _
  by_cases e : b.sp = st - 1
  · simp [e]
  · simp [e]
theorem muK_zero {st : Int} {n : Nat} {s : Nat → Int} {W : List (Int × Int)} {b : BK} (h : BKOk n st s W b) (h0 : muK st b = 0) : b.nx = 0 := by
  have hx := h.nx
  have hl := h.laid
  unfold muK at h0
  by_cases h1 : b.nx = 1
  · rw [if_pos h1] at h0; omega
  rw [if_neg h1] at h0
  by_cases h2 : b.nx = 2 ∨ b.nx = 4
  · rw [if_pos h2] at h0; split at h0 <;> omega
  rw [if_neg h2] at h0
  by_cases h3 : b.nx = 3
  · obtain ⟨m, hm, hw, _⟩ := h.word h3
    rw [if_pos h3, hw, Int.toNat_natCast] at h0; omega
  rw [if_neg h3] at h0
  by_cases h5 : b.nx = 5
  · rw [if_pos h5] at h0; split at h0 <;> omega
  rw [if_neg h5] at h0
  by_cases h6 : b.nx = 6
  · rw [if_pos h6] at h0; omega
  rw [if_neg h6] at h0
  by_cases h7 : b.nx = 7
  · rw [if_pos h7] at h0; omega
  · omega
theorem muK_le {st : Int} {n : Nat} {s : Nat → Int} {W : List (Int × Int)} {b : BK} (h : BKOk n st s W b) : muK st b ≤ W.length + 11 := by
  have hl := h.left
  unfold muK
  repeat' split
  all_goals omega
/-- All older heads say that they are complete. -/
def OldOk (n : Nat) (st : Int) (l : List Acc) : Prop := ∀ k : Int, 1 ≤ k → st - n < k → k < st → overB (wordOf l 2 (slotZ k n) 0) k = true
theorem slot_apart {n : Nat} {st k : Int} (hn : 1 ≤ n) (hn2 : n ≤ 16) (h1 : st - n < k) (h2 : k < st) : slotZ k n ≠ slotZ st n := by
  unfold slotZ
  rw [if_pos (by omega), if_pos (by omega)]
  intro e
  have hd : (st - k) % (n : Int) = 0 := by
    have : (st - k) % (n : Int) = (st % n - k % n) % n := Int.sub_emod st k n
    rw [this, e]; simp
  have := Int.emod_eq_of_lt (a := st - k) (b := n) (by omega) (by omega)
  omega
theorem OldOk.step {n : Nat} {st : Int} {s : Nat → Int} {W : List (Int × Int)} {b : BK} {l : List Acc} (hn : 1 ≤ n) (hn2 : n ≤ 16) (h : OldOk n st l) (hx1 : 1 ≤ b.nx) (hx : b.nx ≤ 7) (th v : Int) : OldOk n st (l ++ [accK n st s W b th v]) := by
  intro k h1 h2 h3
  have hs := slot_apart hn hn2 h2 h3
  have e : wordOf (l ++ [accK n st s W b th v]) 2 (slotZ k n) 0 = wordOf l 2 (slotZ k n) 0 := by
    rw [wordOf_step hx1 hx]
    repeat' split
    all_goals first | rfl | (unfold upd; rw [if_neg (fun e => hs e.2.1)]) | (unfold upd; rw [if_neg (by omega)])
  rw [e]
  exact h k h1 h2 h3
/-- A step, once all older ones are complete: none waits. -/
theorem live_step {n : Nat} {st : Int} {s : Nat → Int} {W : List (Int × Int)} {b : BK} {l : List Acc} (hb : BKOk n st s W b) (hO : OldOk n st l) (h0 : b.nx ≠ 0) (hst : 1 ≤ st) (hn : 1 ≤ n)
    (v : Int) (hv : wordOf l (addrK11 n st W b).1 (addrK11 n st W b).2.1 (addrK11 n st W b).2.2 = v) : ((stepB11 n st s b v).2 = 2 ∨ (stepB11 n st s b v).2 = 3) ∧ muK st (stepB11 n st s b v).1 + 1 ≤ muK st b := by
  have hx := hb.nx
  by_cases h1 : b.nx = 1
  · have e : muK st b = (9 - b.laid) + (if b.known = true then b.left + 1 else b.left + 2) := by unfold muK; rw [if_pos h1]
    unfold stepB11
    rw [if_pos h1, e]
    by_cases h8 : b.laid < 8
    · rw [if_pos h8]
      refine ⟨.inl rfl, ?_⟩
      show muK st { b with laid := b.laid + 1 } + 1 ≤ _
      unfold muK
      rw [if_pos (show b.nx = 1 from h1)]
      show (9 - (b.laid + 1)) + (if b.known = true then b.left + 1 else b.left + 2) + 1 ≤ _
      omega
    · rw [if_neg h8]
      have hl8 := hb.laid
      cases hk : b.known
      · rw [if_neg (by simp)]
        refine ⟨.inl rfl, ?_⟩
        have := muK_old n st b (st - 1) hk
        rw [if_pos rfl] at this
        simp only [Bool.false_eq_true, if_false]
        omega
      · rw [if_pos rfl]
        refine ⟨.inl rfl, ?_⟩
        show muK st (rdyK b) + 1 ≤ _
        rw [muK_rdy, hk]
        simp only [if_true]
        omega
  by_cases h2 : b.nx = 2
  · obtain ⟨hs, hk⟩ := hb.look (.inl h2)
    have e : muK st b = (if b.sp = st - 1 then b.left + 2 else b.left + 3) := by unfold muK; rw [if_neg h1, if_pos (.inl h2)]
    unfold addrK11 at hv
    rw [if_neg h1, if_pos (.inl h2)] at hv
    have ho := hO b.sp hs.1 hs.2.2 hs.2.1
    rw [hv] at ho
    unfold stepB11
    rw [if_neg h1, if_pos h2, if_pos ho, e]
    exact ⟨.inl rfl, muK_ovr st b⟩
  by_cases h3 : b.nx = 3
  · obtain ⟨hs, hk⟩ := hb.look (.inr (.inl h3))
    obtain ⟨m, hm, hw, _⟩ := hb.word h3
    have e : muK st b = 11 - m + b.left := by unfold muK; rw [if_neg h1, if_neg (by omega), if_pos h3, hw, Int.toNat_natCast]
    unfold stepB11
    rw [if_neg h1, if_neg h2, if_pos h3, e, hw, Int.toNat_natCast]
    split
    · refine ⟨.inl rfl, ?_⟩
      show (if b.sp = st - 1 then b.left + 2 else b.left + 3) + 1 ≤ _
      split <;> omega
    · refine ⟨.inl rfl, ?_⟩
      have := muK_wdg n st s b (m + 1) (by omega) hk hs.2.1
      show muK st (wdgK n st s b (m + 1)) + 1 ≤ _
      omega
  by_cases h4 : b.nx = 4
  · obtain ⟨hs, hk⟩ := hb.look (.inr (.inr h4))
    have e : muK st b = (if b.sp = st - 1 then b.left + 2 else b.left + 3) := by unfold muK; rw [if_neg h1, if_pos (.inr h4)]
    unfold addrK11 at hv
    rw [if_neg h1, if_pos (.inr h4)] at hv
    have ho := hO b.sp hs.1 hs.2.2 hs.2.1
    rw [hv] at ho
    unfold stepB11
    rw [if_neg h1, if_neg h2, if_neg h3, if_pos h4, if_pos ho, e]
    exact ⟨.inl rfl, muK_ovr st b⟩
  by_cases h5 : b.nx = 5
  · have e : muK st b = b.left + (if b.known = true then 1 else 2) := by unfold muK; rw [if_neg h1, if_neg (by omega), if_neg h3, if_pos h5]
    have hp := hb.wr h5
    unfold stepB11
    rw [if_neg h1, if_neg h2, if_neg h3, if_neg h4, if_pos h5, e]
    refine ⟨.inl rfl, ?_⟩
    show muK st (rdyK { b with left := b.left - 1 }) + 1 ≤ _
    rw [muK_rdy]
    show b.left - 1 + (if b.known = true then 1 else 2) + 1 ≤ _
    omega
  by_cases h6 : b.nx = 6
  · have e : muK st b = 2 := by unfold muK; rw [if_neg h1, if_neg (by omega), if_neg h3, if_neg h5, if_pos h6]
    have hu := hb.unk (by omega) (hb.ord h6)
    unfold addrK11 at hv
    rw [if_neg h1, if_neg (by omega), if_neg h3, if_neg h5, if_pos h6] at hv
    have ho := hO (st - 1) (by omega) (by omega) (by omega)
    rw [hv] at ho
    unfold stepB11
    rw [if_neg h1, if_neg h2, if_neg h3, if_neg h4, if_neg h5, if_pos h6, if_pos ho, e]
    refine ⟨.inl rfl, ?_⟩
    show muK st (rdyK { b with known := true }) + 1 ≤ _
    rw [muK_rdy]
    show b.left + 1 + 1 ≤ 2
    have := hb.no (.inl h6)
    omega
  · have h7 : b.nx = 7 := by omega
    have e : muK st b = 1 := by unfold muK; rw [if_neg h1, if_neg (by omega), if_neg h3, if_neg h5, if_neg h6, if_pos h7]
    unfold stepB11
    rw [if_neg h1, if_neg h2, if_neg h3, if_neg h4, if_neg h5, if_neg h6, e]
    exact ⟨.inr rfl, by show muK st { b with nx := 0 } + 1 ≤ 1; exact Nat.le_refl _⟩
/-- A machine that knows: it goes straight on. -/
theorem known_step {n : Nat} {st : Int} {s : Nat → Int} {W : List (Int × Int)} {b : BK} (hb : BKOk n st s W b) (hk : b.known = true) (h : b.nx = 1 ∨ b.nx = 5 ∨ b.nx = 7) (v : Int) :
    (stepB11 n st s b v).1.known = true ∧ muK st (stepB11 n st s b v).1 + 1 = muK st b ∧ ((2 ≤ muK st b ∧ (stepB11 n st s b v).2 = 2 ∧ ((stepB11 n st s b v).1.nx = 1 ∨ (stepB11 n st s b v).1.nx = 5 ∨ (stepB11 n st s b v).1.nx = 7)) ∨ (muK st b = 1 ∧ (stepB11 n st s b v).2 = 3 ∧ (stepB11 n st s b v).1.nx = 0)) := by
  have hr : ∀ c : BK, c.known = true → (rdyK c).nx = 1 ∨ (rdyK c).nx = 5 ∨ (rdyK c).nx = 7 := by
    intro c hc
    unfold rdyK
    show (if 0 < c.left then 5 else if c.known = true then 7 else 6) = 1 ∨ _
    rw [hc]
    show _ ∨ (if 0 < c.left then 5 else if true = true then 7 else 6) = 5 ∨ (if 0 < c.left then 5 else if true = true then 7 else 6) = 7
    split
    · exact .inr (.inl rfl)
    · exact .inr (.inr rfl)
  rcases h with h1 | h5 | h7
  · have e : muK st b = (9 - b.laid) + (b.left + 1) := by unfold muK; rw [if_pos h1, if_pos hk]
    unfold stepB11
    rw [if_pos h1, e]
    have hl8 := hb.laid
    by_cases h8 : b.laid < 8
    · rw [if_pos h8]
      refine ⟨hk, ?_, .inl ⟨by omega, rfl, .inl h1⟩⟩
      show muK st { b with laid := b.laid + 1 } + 1 = _
      unfold muK
      rw [if_pos (show b.nx = 1 from h1)]
      show (9 - (b.laid + 1)) + (if b.known = true then b.left + 1 else b.left + 2) + 1 = _
      rw [if_pos hk]
      omega
    · rw [if_neg h8, if_pos hk]
      refine ⟨hk, ?_, .inl ⟨by omega, rfl, hr b hk⟩⟩
      show muK st (rdyK b) + 1 = _
      rw [muK_rdy, if_pos hk]; omega
  · have e : muK st b = b.left + 1 := by unfold muK; rw [if_neg (by omega), if_neg (by omega), if_neg (by omega), if_pos h5, if_pos hk]
    have hp := hb.wr h5
    unfold stepB11
    rw [if_neg (by omega), if_neg (by omega), if_neg (by omega), if_neg (by omega), if_pos h5, e]
    refine ⟨hk, ?_, .inl ⟨by omega, rfl, hr { b with left := b.left - 1 } hk⟩⟩
    show muK st (rdyK { b with left := b.left - 1 }) + 1 = _
    rw [muK_rdy]
    show b.left - 1 + (if b.known = true then 1 else 2) + 1 = _
    rw [if_pos hk]; omega
  · have e : muK st b = 1 := by unfold muK; rw [if_neg (by omega), if_neg (by omega), if_neg (by omega), if_neg (by omega), if_neg (by omega), if_pos h7]
    unfold stepB11
    rw [if_neg (by omega), if_neg (by omega), if_neg (by omega), if_neg (by omega), if_neg (by omega), if_neg (by omega), e]
    exact ⟨hk, rfl, .inr ⟨rfl, rfl, rfl⟩⟩
end Go.Proofs.Ytlmnljijpgpmiaa
