/- Plain: a step of the younger; how far both have gone. -/
import Derived.Test.YtlmnljijpgpmiaaS11d
namespace Go.Proofs.Ytlmnljijpgpmiaa
open Go.RowKit
set_option linter.unusedVariables false
theorem nextW_before (s : Nat → Int) (k j : Nat) (h1 : k ≤ j) (h2 : j < nextW s k) : s j = 0 := by
  by_cases hk : k < 8
  · by_cases hz : s k = 0
    · rw [nextW_zero hk hz] at h2
      by_cases e : j = k
      · rw [e]; exact hz
      · exact nextW_before s (k + 1) j (by omega) h2
    · rw [nextW_here hk hz] at h2; omega
  · rw [nextW, if_neg hk] at h2; omega
termination_by 8 - k
theorem and_zero (a : Int) (ha : 0 ≤ a ∧ a < 18446744073709551616) : bits .and .u64 a 0 = 0 := by
  have := and_nat a 0 ha ⟨by omega, by omega⟩
  rw [this]; simp
theorem rdyK_nxD (b : BK) : (rdyK b).nx = 5 ∨ (rdyK b).nx = 6 ∨ (rdyK b).nx = 7 := by
  unfold rdyK
  show (if 0 < b.left then 5 else if b.known = true then 7 else 6) = 5 ∨ _ ∨ _
  split
  · exact .inl rfl
  · split
    · exact .inr (.inr rfl)
    · exact .inr (.inl rfl)
theorem rdyK_n3D (b : BK) : (rdyK b).nx ≠ 3 := by
  intro e
  have := rdyK_nxD b
  omega
/-- The younger has looked at the words up to k. -/
theorem wdg_facts {n : Nat} (hn : 2 ≤ n) {sx sy : Nat → Int} (hsx : Wds sx) {b : BK} (hk : b.known = false) (hsp : b.sp = 1) {k : Nat} (hk8 : k ≤ 8) (hb : ∀ j : Nat, j < k → bits .and .u64 (sx j) (sy j) = 0) :
    (wdgK n 2 sy b k).known = false ∧ ((wdgK n 2 sy b k).nx = 3 → ∀ j : Nat, (j : Int) < (wdgK n 2 sy b k).word → bits .and .u64 (sx j) (sy j) = 0) ∧ (5 ≤ (wdgK n 2 sy b k).nx ∨ (wdgK n 2 sy b k).nx = 0 → NoM sx sy) := by
  unfold wdgK
  by_cases h : nextW sy k < 8
  · rw [if_pos h]
    refine ⟨hk, fun _ j hj => ?_, fun h5 => ?_⟩
    · change (j : Int) < (nextW sy k : Nat) at hj
      by_cases hjk : j < k
      · exact hb j hjk
      · rw [nextW_before sy k j (by omega) (by omega)]
        exact and_zero _ (hsx j)
    · change 5 ≤ 3 ∨ 3 = 0 at h5; omega
  · rw [if_neg h]
    unfold oldK
    rw [hsp, if_pos (by omega)]
    refine ⟨hk, fun h3 => ?_, fun _ j hj => ?_⟩
    · exact absurd h3 (rdyK_n3D _)
    · by_cases hjk : j < k
      · exact hb j hjk
      · rw [nextW_before sy k j (by omega) (by omega)]
        exact and_zero _ (hsx j)
theorem over_one (v : Int) (h : v = 1 ∨ v = 2 ∨ v = 3) : overB v 1 = true ↔ v = 3 := by
  rcases h with rfl | rfl | rfl <;> decide
theorem laid_one (v : Int) (h : v = 1 ∨ v = 2 ∨ v = 3) : laidB v 1 = true ↔ v ≠ 1 := by
  rcases h with rfl | rfl | rfl <;> decide
/-- A step of the younger. -/
theorem OInv.younger {n : Nat} {Wx Wy : List (Int × Int)} {bx bY : BK} {l : List Acc} (hn : 2 ≤ n) (hn2 : n ≤ 16) (h : OInv n Wx Wy bx bY l) (h0 : bY.nx ≠ 0) (hW : ∀ y ∈ Wy, I64 y.2) (th v : Int)
    (hv : wordOf l (addrK11 n 2 Wy bY).1 (addrK11 n 2 Wy bY).2.1 (addrK11 n 2 Wy bY).2.2 = v) :
    OInv n Wx Wy bx (stepB11 n 2 (ofS (Wy.map Prod.fst)) bY v).1 (l ++ [accK n 2 (ofS (Wy.map Prod.fst)) Wy bY th v]) := by
  have hx := h.y.ok.nx
  have hs12 := slot12 hn hn2
  have hw := wordOf_step (n := n) (st := 2) (s := ofS (Wy.map Prod.fst)) (W := Wy) (b := bY) (by omega) hx th v l
  have hsl := step_left (n := n) (st := 2) (s := ofS (Wy.map Prod.fst)) (b := bY) (v := v)
  have hok' := h.y.ok.step v
  have hokw := wordOf_okw h.okw h.y.ok h0 hW th v
  have hsx : Wds (ofS (Wx.map Prod.fst)) := ofS_wds _
  have hhead : wordOf l 2 (slotZ 1 n) 0 = 1 ∨ wordOf l 2 (slotZ 1 n) 0 = 2 ∨ wordOf l 2 (slotZ 1 n) 0 = 3 := by
    rw [h.x.head]
    split
    · exact .inl rfl
    · split
      · exact .inr (.inr rfl)
      · exact .inr (.inl rfl)
  have hover : overB (wordOf l 2 (slotZ 1 n) 0) 1 = true → bx.nx = 0 := by
    intro ho
    have := (over_one _ hhead).1 ho
    rw [h.x.head] at this
    split at this
    · omega
    · split at this
      · assumption
      · omega
  have e1 : wordOf (l ++ [accK n 2 (ofS (Wy.map Prod.fst)) Wy bY th v]) 2 (slotZ 1 n) 0 = wordOf l 2 (slotZ 1 n) 0 := by
    rw [hw]
    repeat' split
    all_goals first | rfl | (unfold upd; rw [if_neg (fun e => hs12 e.2.1)]) | (unfold upd; rw [if_neg (by omega)])
  have e2 : ∀ j : Int, wordOf (l ++ [accK n 2 (ofS (Wy.map Prod.fst)) Wy bY th v]) 3 (slotZ 1 n) j = wordOf l 3 (slotZ 1 n) j := by
    intro j
    rw [hw]
    repeat' split
    all_goals first | rfl | (unfold upd; rw [if_neg (fun e => hs12 e.2.1)]) | (unfold upd; rw [if_neg (by omega)])
  have e3 : bY.nx ≠ 1 → bY.nx ≠ 7 → wordOf (l ++ [accK n 2 (ofS (Wy.map Prod.fst)) Wy bY th v]) 2 (slotZ 2 n) 0 = wordOf l 2 (slotZ 2 n) 0 := by
    intro q1 q7
    rw [hw, if_neg q1]
    split
    · unfold upd; rw [if_neg (by omega)]
    · first | rfl | rw [if_neg q7]
  have hcells : ∀ c, wordOf (l ++ [accK n 2 (ofS (Wy.map Prod.fst)) Wy bY th v]) 4 c 0 = lastV (Wx.take (Wx.length - bx.left) ++ Wy.take (Wy.length - (stepB11 n 2 (ofS (Wy.map Prod.fst)) bY v).1.left)) c := by
    intro c
    rw [hw, hsl]
    by_cases h1 : bY.nx = 1
    · rw [if_pos h1, if_neg (show ¬ bY.nx = 5 by omega), ← h.cells c]
      split <;> (unfold upd; rw [if_neg (by omega)])
    · rw [if_neg h1]
      by_cases h5 : bY.nx = 5
      · rw [if_pos h5, if_pos h5, take_wr (h.y.ok.wr h5) h.y.ok.left, ← List.append_assoc, lastV_snoc, ← h.cells c]
        unfold upd
        by_cases e : (wrK Wy bY).1 = c
        · rw [if_pos ⟨rfl, e.symm, rfl⟩, if_pos e]
        · rw [if_neg (fun k => e k.2.1.symm), if_neg e]
      · rw [if_neg h5, if_neg h5, ← h.cells c]
        split
        · unfold upd; rw [if_neg (by omega)]
        · rfl
  have hfin0 : ¬ wordOf l 2 (slotZ 2 n) 0 = 5 := fun q => h0 (h.y.fin q)
  -- the numbers behind the step
  have key : ((stepB11 n 2 (ofS (Wy.map Prod.fst)) bY v).1.known = true → bx.nx = 0) ∧ ((stepB11 n 2 (ofS (Wy.map Prod.fst)) bY v).1.nx = 3 → bx.nx ≠ 1 ∧ ∀ j : Nat, (j : Int) < (stepB11 n 2 (ofS (Wy.map Prod.fst)) bY v).1.word → bits .and .u64 (ofS (Wx.map Prod.fst) j) (ofS (Wy.map Prod.fst) j) = 0) ∧ (5 ≤ (stepB11 n 2 (ofS (Wy.map Prod.fst)) bY v).1.nx ∨ (stepB11 n 2 (ofS (Wy.map Prod.fst)) bY v).1.nx = 0 → bx.nx = 0 ∨ NoM (ofS (Wx.map Prod.fst)) (ofS (Wy.map Prod.fst))) := by
    have hrdy : ∀ c : BK, (rdyK c).nx ≠ 3 := by
      intro c e
      have := rdyK_nxD c
      omega
    unfold stepB11
    by_cases h1 : bY.nx = 1
    · rw [if_pos h1]
      by_cases h8 : bY.laid < 8
      · rw [if_pos h8]
        exact ⟨h.y.known, fun q => by change bY.nx = 3 at q; omega, fun q => by change 5 ≤ bY.nx ∨ bY.nx = 0 at q; omega⟩
      · rw [if_neg h8]
        cases hk : bY.known
        · rw [if_neg (by simp)]
          unfold oldK
          rw [if_neg (by omega)]
          exact ⟨fun q => (by change bY.known = true at q; rw [hk] at q; cases q), fun q => by change 2 = 3 at q; omega, fun q => by change 5 ≤ 2 ∨ 2 = 0 at q; omega⟩
        · rw [if_pos rfl]
          have := h.y.known hk
          exact ⟨fun _ => this, fun q => absurd q (hrdy _), fun _ => .inl this⟩
    rw [if_neg h1]
    by_cases h2 : bY.nx = 2
    · obtain ⟨hs, hk⟩ := h.y.ok.look (.inl h2)
      have hsp : bY.sp = 1 := by omega
      unfold addrK11 at hv
      rw [if_neg h1, if_pos (.inl h2), hsp] at hv
      rw [if_pos h2]
      by_cases ho : overB v bY.sp = true
      · rw [if_pos ho]
        rw [hsp, ← hv] at ho
        have := hover ho
        exact ⟨fun _ => this, fun q => absurd q (hrdy _), fun _ => .inl this⟩
      · rw [if_neg ho]
        by_cases hl : laidB v bY.sp = true
        · rw [if_pos hl]
          have hb1 : bx.nx ≠ 1 := by
            rw [hsp, ← hv] at hl
            have := (laid_one _ hhead).1 hl
            intro e
            rw [h.x.head, if_pos e] at this
            exact this rfl
          obtain ⟨f1, f2, f3⟩ := wdg_facts hn (sy := ofS (Wy.map Prod.fst)) hsx hk hsp (Nat.zero_le 8) (fun j hj => absurd hj (Nat.not_lt_zero _))
          exact ⟨fun q => (by rw [f1] at q; cases q), fun q => ⟨hb1, f2 q⟩, fun q => .inr (f3 q)⟩
        · rw [if_neg hl]
          exact ⟨h.y.known, h.y.word, h.y.gone⟩
    rw [if_neg h2]
    by_cases h3 : bY.nx = 3
    · obtain ⟨hs, hk⟩ := h.y.ok.look (.inr (.inl h3))
      obtain ⟨m, hm8, hwm, _⟩ := h.y.ok.word h3
      obtain ⟨hb1, hlow⟩ := h.y.word h3
      have hsp : bY.sp = 1 := by omega
      unfold addrK11 at hv
      rw [if_neg h1, if_neg (by omega), if_pos h3, hsp, hwm] at hv
      change wordOf l 3 (slotZ 1 n) (m : Nat) = v at hv
      rw [h.x.sig m hm8 (.inl hb1)] at hv
      rw [if_pos h3, hwm, Int.toNat_natCast]
      have hwb : IntKind.u64.wrap v = ofS (Wx.map Prod.fst) m := by rw [← hv]; exact wrap_back (hsx m).1 (hsx m).2
      rw [hwb]
      by_cases hbt : bits .and .u64 (ofS (Wx.map Prod.fst) m) (ofS (Wy.map Prod.fst) m) ≠ 0
      · rw [if_pos hbt]
        exact ⟨h.y.known, fun q => by change 4 = 3 at q; omega, fun q => by change 5 ≤ 4 ∨ 4 = 0 at q; omega⟩
      · rw [if_neg hbt]
        obtain ⟨f1, f2, f3⟩ := wdg_facts hn (sy := ofS (Wy.map Prod.fst)) hsx hk hsp (k := m + 1) (by omega) (fun j hj => by
          by_cases e : j = m
          · rw [e]; exact Decidable.not_not.1 hbt
          · exact hlow j (by rw [hwm]; omega))
        exact ⟨fun q => (by rw [f1] at q; cases q), fun q => ⟨hb1, f2 q⟩, fun q => .inr (f3 q)⟩
    rw [if_neg h3]
    by_cases h4 : bY.nx = 4
    · obtain ⟨hs, hk⟩ := h.y.ok.look (.inr (.inr h4))
      have hsp : bY.sp = 1 := by omega
      unfold addrK11 at hv
      rw [if_neg h1, if_pos (.inr h4), hsp] at hv
      rw [if_pos h4]
      by_cases ho : overB v bY.sp = true
      · rw [if_pos ho]
        rw [hsp, ← hv] at ho
        have := hover ho
        exact ⟨fun _ => this, fun q => absurd q (hrdy _), fun _ => .inl this⟩
      · rw [if_neg ho]
        exact ⟨h.y.known, h.y.word, h.y.gone⟩
    rw [if_neg h4]
    by_cases h5 : bY.nx = 5
    · rw [if_pos h5]
      have hg := h.y.gone (.inl (by omega))
      exact ⟨h.y.known, fun q => absurd q (hrdy _), fun _ => hg⟩
    rw [if_neg h5]
    by_cases h6 : bY.nx = 6
    · unfold addrK11 at hv
      rw [if_neg h1, if_neg (by omega), if_neg h3, if_neg h5, if_pos h6] at hv
      change wordOf l 2 (slotZ (2 - 1) n) 0 = v at hv
      rw [if_pos h6]
      by_cases ho : overB v (2 - 1) = true
      · rw [if_pos ho]
        rw [← hv] at ho
        have := hover ho
        exact ⟨fun _ => this, fun q => absurd q (hrdy _), fun _ => .inl this⟩
      · rw [if_neg ho]
        exact ⟨h.y.known, h.y.word, h.y.gone⟩
    · rw [if_neg h6]
      have hg := h.y.gone (.inl (by omega))
      exact ⟨h.y.known, fun q => by change 0 = 3 at q; omega, fun _ => hg⟩
  have hfin : wordOf (l ++ [accK n 2 (ofS (Wy.map Prod.fst)) Wy bY th v]) 2 (slotZ 2 n) 0 = 5 → (stepB11 n 2 (ofS (Wy.map Prod.fst)) bY v).1.nx = 0 := by
    intro hf
    by_cases h1 : bY.nx = 1
    · rw [hw, if_pos h1] at hf
      split at hf
      · unfold upd at hf; rw [if_neg (by omega)] at hf; exact absurd hf hfin0
      · unfold upd at hf; rw [if_pos ⟨rfl, rfl, rfl⟩, headZ2f] at hf; omega
    · by_cases h7 : bY.nx = 7
      · unfold stepB11
        rw [if_neg (by omega), if_neg (by omega), if_neg (by omega), if_neg (by omega), if_neg (by omega), if_neg (by omega)]
      · rw [e3 h1 h7] at hf
        exact absurd hf hfin0
  exact ⟨⟨h.x.ok, h.x.known, h.x.nx, e1.trans h.x.head, fun j hj hq => (e2 j).trans (h.x.sig j hj hq)⟩, ⟨hok', key.1, hfin, key.2.1, key.2.2⟩, hcells, hokw⟩
/-- Once the elder is over, the younger doesn't wait. -/
theorem OInv.old {n : Nat} {Wx Wy : List (Int × Int)} {bx bY : BK} {l : List Acc} (h : OInv n Wx Wy bx bY l) (hx : bx.nx = 0) : OldOk n 2 l := by
  intro k h1 h2 h3
  obtain rfl : k = 1 := by omega
  rw [h.x.head, if_neg (by omega), if_pos hx]
  decide
/-- What is looked at behind each step. -/
theorem OInv.shows {n : Nat} {Wx Wy : List (Int × Int)} {bx bY : BK} {l : List Acc} (h : OInv n Wx Wy bx bY l) : (wordOf l 2 (slotZ 2 n) 0 = 5 → wordOf l 2 (slotZ 1 n) 0 = 3) ∧ ((!sigEq (andS (ofS (Wx.map Prod.fst)) (ofS (Wy.map Prod.fst))) noS) = true → wordOf l 2 (slotZ 1 n) 0 ≠ 3 → bY.left = Wy.length) := by
  have hd : bx.nx = 0 → wordOf l 2 (slotZ 1 n) 0 = 3 := by
    intro e
    rw [h.x.head, if_neg (by omega), if_pos e]
  refine ⟨fun h5 => ?_, fun hm hp => ?_⟩
  · have h0 := h.y.fin h5
    exact hd (h.y.known (h.y.ok.fin (.inr h0)))
  · by_cases h14 : 1 ≤ bY.nx ∧ bY.nx ≤ 4
    · exact h.y.ok.all h14.1 h14.2
    · exfalso
      rcases h.y.gone (by omega) with q | q
      · exact hp (hd q)
      · rw [noM_eq q] at hm; cases hm
end Go.Proofs.Ytlmnljijpgpmiaa
