/- Plain: what was published is written back. -/
import Derived.Test.YtlmnljijpgpmiaaS8
import Derived.Test.YtlmnljijpgpmiaaS3
namespace Go.Proofs.Ytlmnljijpgpmiaa
open Go.RowKit
/-- The machine's numbers. -/
structure BK where
  left : Nat
  laid : Nat
  sp : Int
  word : Int
  known : Bool
  nx : Nat
def rdyK (b : BK) : BK := { b with nx := if 0 < b.left then 5 else if b.known = true then 7 else 6 }
def oldK (n : Nat) (st : Int) (b : BK) (sp : Int) : BK := if sp < 1 ∨ sp ≤ st - n then rdyK { b with sp := sp } else { b with sp := sp, nx := 2 }
def ovrK (st : Int) (b : BK) : BK := rdyK { b with known := b.sp == st - 1 }
/-- Goes on to the words from k on. -/
def wdgK (n : Nat) (st : Int) (s : Nat → Int) (b : BK) (k : Nat) : BK :=
  if nextW s k < 8 then { b with word := (nextW s k : Nat), nx := 3 } else oldK n st { b with word := 8 } (b.sp - 1)
def knK (n : Nat) (mu : Bool) (st : Int) : Bool := !mu || n == 1 || st == 1
def newK (n : Nat) (mu : Bool) (st : Int) (W : List (Int × Int)) : BK := ⟨W.length, 0, 0, 0, knK n mu st, 1⟩
/-- What is written next. -/
def wrK (W : List (Int × Int)) (b : BK) : Int × Int := (W[W.length - b.left]?).getD (0, 0)
/-- Where it accesses. -/
def addrK11 (n : Nat) (st : Int) (W : List (Int × Int)) (b : BK) : Int × Int × Int :=
  if b.nx = 1 then if b.laid < 8 then (3, slotZ st n, (b.laid : Nat)) else (2, slotZ st n, 0)
  else if b.nx = 2 ∨ b.nx = 4 then (2, slotZ b.sp n, 0)
  else if b.nx = 3 then (3, slotZ b.sp n, b.word)
  else if b.nx = 5 then (4, (wrK W b).1, 0)
  else if b.nx = 6 then (2, slotZ (st - 1) n, 0)
  else (2, slotZ st n, 0)
/-- What it stores. -/
def valK (st : Int) (s : Nat → Int) (W : List (Int × Int)) (b : BK) : Int :=
  if b.nx = 1 then if b.laid < 8 then wrap64 (s b.laid) else headZ st false
  else if b.nx = 5 then (wrK W b).2 else headZ st true
/-- Its access. -/
def accK (n : Nat) (st : Int) (s : Nat → Int) (W : List (Int × Int)) (b : BK) (th v : Int) : Acc :=
  if b.nx = 1 ∨ b.nx = 5 ∨ b.nx = 7 then stAcc th (addrK11 n st W b).1 (addrK11 n st W b).2.1 (addrK11 n st W b).2.2 (valK st s W b)
  else ldAcc th (addrK11 n st W b).1 (addrK11 n st W b).2.1 (addrK11 n st W b).2.2 v
/-- A step by what stands there: the numbers behind it, the kind. -/
def stepB11 (n : Nat) (st : Int) (s : Nat → Int) (b : BK) (v : Int) : BK × Int :=
  if b.nx = 1 then
    if b.laid < 8 then ({ b with laid := b.laid + 1 }, 2)
    else if b.known = true then (rdyK b, 2) else (oldK n st b (st - 1), 2)
  else if b.nx = 2 then
    if overB v b.sp = true then (ovrK st b, 2)
    else if laidB v b.sp = true then (wdgK n st s b 0, 2) else (b, 1)
  else if b.nx = 3 then
    if bits .and .u64 (IntKind.u64.wrap v) (s b.word.toNat) ≠ 0 then ({ b with nx := 4 }, 2) else (wdgK n st s b (b.word.toNat + 1), 2)
  else if b.nx = 4 then if overB v b.sp = true then (ovrK st b, 2) else (b, 1)
  else if b.nx = 5 then (rdyK { b with left := b.left - 1 }, 2)
  else if b.nx = 6 then if overB v (st - 1) = true then (rdyK { b with known := true }, 2) else (b, 1)
  else ({ b with nx := 0 }, 3)
/-- What holds of the numbers behind any steps. -/
structure BKOk (n : Nat) (st : Int) (s : Nat → Int) (W : List (Int × Int)) (b : BK) : Prop where
  left : b.left ≤ W.length
  laid : b.laid ≤ 8
  nx : b.nx ≤ 7
  all : 1 ≤ b.nx → b.nx ≤ 4 → b.left = W.length
  lay : b.nx = 1 → b.known = false → 1 < n ∧ 1 < st
  look : b.nx = 2 ∨ b.nx = 3 ∨ b.nx = 4 → (1 ≤ b.sp ∧ b.sp < st ∧ st - n < b.sp) ∧ b.known = false
  word : b.nx = 3 → ∃ m : Nat, m < 8 ∧ b.word = m ∧ s m ≠ 0
  wr : b.nx = 5 → 0 < b.left
  no : b.nx = 6 ∨ b.nx = 7 ∨ b.nx = 0 → b.left = 0
  ord : b.nx = 6 → b.known = false
  fin : b.nx = 7 ∨ b.nx = 0 → b.known = true
  unk : 2 ≤ b.nx → b.known = false → 1 < n ∧ 1 < st
theorem nextW_nz (s : Nat → Int) (k : Nat) (h : nextW s k < 8) : s (nextW s k) ≠ 0 := by
  by_cases hk : k < 8
  · by_cases hz : s k = 0
    · rw [nextW_zero hk hz] at h ⊢
      exact nextW_nz s (k + 1) h
    · rw [nextW_here hk hz]; exact hz
  · rw [nextW, if_neg hk] at h; omega
termination_by 8 - k
theorem BKOk.new (n : Nat) (hn : 1 ≤ n) (mu : Bool) (st : Int) (hs : 1 ≤ st) (s : Nat → Int) (W : List (Int × Int)) : BKOk n st s W (newK n mu st W) where
  left := Nat.le_refl _
  laid := Nat.zero_le _
  nx := by show 1 ≤ 7; omega
  all := fun _ _ => rfl
  lay := by
    intro _ h
    change knK n mu st = false at h
    unfold knK at h
    simp at h
    omega
  look := by intro h; change 1 = 2 ∨ 1 = 3 ∨ 1 = 4 at h; omega
  word := by intro h; change 1 = 3 at h; omega
  wr := by intro h; change 1 = 5 at h; omega
  no := by intro h; change 1 = 6 ∨ 1 = 7 ∨ 1 = 0 at h; omega
  ord := by intro h; change 1 = 6 at h; omega
  fin := by intro h; change 1 = 7 ∨ 1 = 0 at h; omega
  unk := by intro h; change 2 ≤ 1 at h; omega
theorem BKOk.rdy {n : Nat} {st : Int} {s : Nat → Int} {W : List (Int × Int)} {b : BK} (h1 : b.left ≤ W.length) (h2 : b.laid ≤ 8) (h3 : b.known = false → 1 < n ∧ 1 < st) : BKOk n st s W (rdyK b) := by
  unfold rdyK
  by_cases hl : 0 < b.left
  · rw [if_pos hl]
    exact ⟨h1, h2, by show 5 ≤ 7; omega, by intro _ h; change 5 ≤ 4 at h; omega, by intro h; change 5 = 1 at h; omega, by intro h; change 5 = 2 ∨ 5 = 3 ∨ 5 = 4 at h; omega, by intro h; change 5 = 3 at h; omega, fun _ => hl, by intro h; change 5 = 6 ∨ 5 = 7 ∨ 5 = 0 at h; omega, by intro h; change 5 = 6 at h; omega, by intro h; change 5 = 7 ∨ 5 = 0 at h; omega, fun _ h => h3 h⟩
  · rw [if_neg hl]
    have hl0 : b.left = 0 := by omega
    by_cases hk : b.known = true
    · rw [if_pos hk]
      exact ⟨h1, h2, by show 7 ≤ 7; omega, by intro _ h; change 7 ≤ 4 at h; omega, by intro h; change 7 = 1 at h; omega, by intro h; change 7 = 2 ∨ 7 = 3 ∨ 7 = 4 at h; omega, by intro h; change 7 = 3 at h; omega, by intro h; change 7 = 5 at h; omega, fun _ => hl0, by intro h; change 7 = 6 at h; omega, fun _ => hk, fun _ h => h3 h⟩
    · rw [if_neg hk]
      have hk' : b.known = false := by simpa using hk
      exact ⟨h1, h2, by show 6 ≤ 7; omega, by intro _ h; change 6 ≤ 4 at h; omega, by intro h; change 6 = 1 at h; omega, by intro h; change 6 = 2 ∨ 6 = 3 ∨ 6 = 4 at h; omega, by intro h; change 6 = 3 at h; omega, by intro h; change 6 = 5 at h; omega, fun _ => hl0, fun _ => hk', by intro h; change 6 = 7 ∨ 6 = 0 at h; omega, fun _ h => h3 h⟩
theorem BKOk.old {n : Nat} {st : Int} {s : Nat → Int} {W : List (Int × Int)} {b : BK} {sp : Int} (h1 : b.left = W.length) (h2 : b.laid ≤ 8) (h3 : 1 < n ∧ 1 < st) (hk : b.known = false) (hsp : sp < st) : BKOk n st s W (oldK n st b sp) := by
  unfold oldK
  by_cases h : sp < 1 ∨ sp ≤ st - n
  · rw [if_pos h]
    exact BKOk.rdy (Nat.le_of_eq h1) h2 (fun _ => h3)
  · rw [if_neg h]
    exact ⟨Nat.le_of_eq h1, h2, by show 2 ≤ 7; omega, fun _ _ => h1, by intro h; change 2 = 1 at h; omega, fun _ => ⟨⟨by show 1 ≤ sp; omega, hsp, by show st - n < sp; omega⟩, hk⟩, by intro h; change 2 = 3 at h; omega, by intro h; change 2 = 5 at h; omega, by intro h; change 2 = 6 ∨ 2 = 7 ∨ 2 = 0 at h; omega, by intro h; change 2 = 6 at h; omega, by intro h; change 2 = 7 ∨ 2 = 0 at h; omega, fun _ _ => h3⟩
theorem BKOk.wdg {n : Nat} {st : Int} {s : Nat → Int} {W : List (Int × Int)} {b : BK} {k : Nat} (h1 : b.left = W.length) (h2 : b.laid ≤ 8) (h3 : 1 < n ∧ 1 < st) (hk : b.known = false) (hsp : 1 ≤ b.sp ∧ b.sp < st ∧ st - n < b.sp) : BKOk n st s W (wdgK n st s b k) := by
  unfold wdgK
  by_cases h : nextW s k < 8
  · rw [if_pos h]
    exact ⟨Nat.le_of_eq h1, h2, by show 3 ≤ 7; omega, fun _ _ => h1, by intro h; change 3 = 1 at h; omega, fun _ => ⟨hsp, hk⟩, fun _ => ⟨_, h, rfl, nextW_nz s k h⟩, by intro h; change 3 = 5 at h; omega, by intro h; change 3 = 6 ∨ 3 = 7 ∨ 3 = 0 at h; omega, by intro h; change 3 = 6 at h; omega, by intro h; change 3 = 7 ∨ 3 = 0 at h; omega, fun _ _ => h3⟩
  · rw [if_neg h]
    exact BKOk.old h1 h2 h3 hk (by omega)
theorem BKOk.step {n : Nat} {st : Int} {s : Nat → Int} {W : List (Int × Int)} {b : BK} (h : BKOk n st s W b) (v : Int) : BKOk n st s W (stepB11 n st s b v).1 := by
  have hx := h.nx
  unfold stepB11
  by_cases h1 : b.nx = 1
  · rw [if_pos h1]
    by_cases hl : b.laid < 8
    · rw [if_pos hl]
      exact ⟨h.left, by show b.laid + 1 ≤ 8; omega, h.nx, h.all, h.lay, h.look, h.word, h.wr, h.no, h.ord, h.fin, h.unk⟩
    · rw [if_neg hl]
      by_cases hk : b.known = true
      · rw [if_pos hk]
        exact BKOk.rdy h.left h.laid (fun e => by rw [hk] at e; cases e)
      · rw [if_neg hk]
        have hk' : b.known = false := by simpa using hk
        exact BKOk.old (h.all (by omega) (by omega)) h.laid (h.lay h1 hk') hk' (by omega)
  rw [if_neg h1]
  by_cases h2 : b.nx = 2
  · rw [if_pos h2]
    obtain ⟨hs, hk⟩ := h.look (.inl h2)
    have hu := h.unk (by omega) hk
    split
    · exact BKOk.rdy h.left h.laid (fun _ => hu)
    · split
      · exact BKOk.wdg (h.all (by omega) (by omega)) h.laid hu hk hs
      · exact h
  rw [if_neg h2]
  by_cases h3 : b.nx = 3
  · rw [if_pos h3]
    obtain ⟨hs, hk⟩ := h.look (.inr (.inl h3))
    have hu := h.unk (by omega) hk
    split
    · exact ⟨h.left, h.laid, by show 4 ≤ 7; omega, fun _ _ => h.all (by omega) (by omega), by intro h; change 4 = 1 at h; omega, fun _ => ⟨hs, hk⟩, by intro h; change 4 = 3 at h; omega, by intro h; change 4 = 5 at h; omega, by intro h; change 4 = 6 ∨ 4 = 7 ∨ 4 = 0 at h; omega, by intro h; change 4 = 6 at h; omega, by intro h; change 4 = 7 ∨ 4 = 0 at h; omega, fun _ _ => hu⟩
    · exact BKOk.wdg (h.all (by omega) (by omega)) h.laid hu hk hs
  rw [if_neg h3]
  by_cases h4 : b.nx = 4
  · rw [if_pos h4]
    obtain ⟨hs, hk⟩ := h.look (.inr (.inr h4))
    have hu := h.unk (by omega) hk
    split
    · exact BKOk.rdy h.left h.laid (fun _ => hu)
    · exact h
  rw [if_neg h4]
  by_cases h5 : b.nx = 5
  · rw [if_pos h5]
    have hle := h.left
    exact BKOk.rdy (by show b.left - 1 ≤ _; omega) h.laid (fun e => h.unk (by omega) e)
  rw [if_neg h5]
  by_cases h6 : b.nx = 6
  · rw [if_pos h6]
    split
    · exact BKOk.rdy h.left h.laid (fun e => by cases e)
    · exact h
  rw [if_neg h6]
  by_cases h7 : b.nx = 7
  · exact ⟨h.left, h.laid, by show 0 ≤ 7; omega, by intro h; change 1 ≤ 0 at h; omega, by intro h; change 0 = 1 at h; omega, by intro h; change 0 = 2 ∨ 0 = 3 ∨ 0 = 4 at h; omega, by intro h; change 0 = 3 at h; omega, by intro h; change 0 = 5 at h; omega, fun _ => h.no (.inr (.inl h7)), by intro h; change 0 = 6 at h; omega, fun _ => h.fin (.inl h7), by intro h; change 2 ≤ 0 at h; omega⟩
  · have h0 : b.nx = 0 := by omega
    exact ⟨h.left, h.laid, by show 0 ≤ 7; omega, by intro h; change 1 ≤ 0 at h; omega, by intro h; change 0 = 1 at h; omega, by intro h; change 0 = 2 ∨ 0 = 3 ∨ 0 = 4 at h; omega, by intro h; change 0 = 3 at h; omega, by intro h; change 0 = 5 at h; omega, fun _ => h.no (.inr (.inr h0)), by intro h; change 0 = 6 at h; omega, fun _ => h.fin (.inr h0), by intro h; change 2 ≤ 0 at h; omega⟩
end Go.Proofs.Ytlmnljijpgpmiaa
