/- Plain: the check of what was read. -/
import Derived.Test.YtojkeahffabifaaS1
import Derived.Test.YtojkeahffabifaaS2
namespace Go.Proofs.Ytojkeahffabifaa
open Go.RowKit
/-- The next word of a signature that isn't 0, from k on; 8: none. -/
def nextW (rs : Nat → Int) (k : Nat) : Nat :=
  if k < 8 then if rs k = 0 then nextW rs (k + 1) else k else 8
termination_by 8 - k
theorem nextW_le (rs : Nat → Int) (k : Nat) : nextW rs k ≤ 8 := by
  unfold nextW
  split
  · split
    · exact nextW_le rs (k + 1)
    · omega
  · omega
termination_by 8 - k
theorem nextW_ge (rs : Nat → Int) (k : Nat) (h : k ≤ 8) : k ≤ nextW rs k := by
  unfold nextW
  split
  · split
    · have := nextW_ge rs (k + 1) (by omega)
      omega
    · omega
  · omega
termination_by 8 - k
theorem nextW_zero {rs : Nat → Int} {k : Nat} (h : k < 8) (hz : rs k = 0) : nextW rs k = nextW rs (k + 1) := by
  rw [nextW, if_pos h, if_pos hz]
theorem nextW_here {rs : Nat → Int} {k : Nat} (h : k < 8) (hz : rs k ≠ 0) : nextW rs k = k := by
  rw [nextW, if_pos h, if_neg hz]
theorem nextW_end (rs : Nat → Int) : nextW rs 8 = 8 := by
  rw [nextW, if_neg (by decide)]
/-- Is a stamp above the start by more than the size? -/
def farB (size : Nat) (fr n : Int) : Bool := decide (fr < n) && decide ((size : Int) < n - fr)
/-- The check's numbers. -/
structure CS where
  st : Int
  start : Int
  seen : Int
  sk : Int
  word : Int
/-- What is loaded next. -/
def addrK (size : Nat) (s : CS) : Int × Int × Int := if s.st = 0 ∨ s.st = 3 then (1, 0, 0) else if s.st = 1 then (2, slotZ s.sk size, 0) else (3, slotZ s.sk size, s.word)
/-- All words 0? -/
def zeroS (rs : Nat → Int) : Bool := nextW rs 0 == 8
/-- A step: the numbers behind it, the kind, the error. -/
def stepK (size : Nat) (fr : Int) (rs : Nat → Int) (last : Bool) (s : CS) (v : Int) : CS × Int × Int :=
  if s.st = 0 then
    if zeroS rs = true ∨ v ≤ fr then ({ s with st := 4, seen := v }, 3, 0)
    else if farB size fr v = true then ({ s with st := 5, seen := v }, 4, 4)
    else ({ s with st := 1, seen := v, sk := fr + 1 }, 2, 0)
  else if s.st = 1 then
    if v / 2 < s.sk then (s, 1, 0)
    else if s.sk < v / 2 then ({ s with st := 5 }, 4, 4)
    else ({ s with st := 2, start := if v % 2 = 1 ∧ s.start = s.sk - 1 then s.sk else s.start, word := nextW rs 0 }, 2, 0)
  else if s.st = 2 then
    if bits .and .u64 (IntKind.u64.wrap v) (rs s.word.toNat) ≠ 0 then ({ s with st := 5 }, 4, 3)
    else if nextW rs (s.word.toNat + 1) < 8 then ({ s with word := nextW rs (s.word.toNat + 1) }, 2, 0)
    else if s.sk < s.seen then ({ s with st := 1, sk := s.sk + 1, word := nextW rs (s.word.toNat + 1) }, 2, 0)
    else if last = true then ({ s with st := 3, word := nextW rs (s.word.toNat + 1) }, 2, 0)
    else ({ s with st := 4, word := nextW rs (s.word.toNat + 1) }, 3, 0)
  else
    if farB size fr v = true then ({ s with st := 5 }, 4, 4) else ({ s with st := 4 }, 3, 0)
end Go.Proofs.Ytojkeahffabifaa
namespace Go.Proofs.Ytojkeahffabifaa
open Go.RowKit
/-- Behind n steps that did not wait. -/
def WInv (size : Nat) (fr : Int) (rs : Nat → Int) (s : CS) (n : Nat) : Prop :=
  (s.st = 0 ∧ n = 0) ∨
  (zeroS rs = false ∧ s.st = 1 ∧ (fr + 1 ≤ s.sk ∧ s.sk ≤ s.seen ∧ s.seen - fr ≤ size ∧ s.seen ≤ 9223372036854775807) ∧ (n : Int) ≤ 1 + 9 * (s.sk - fr - 1)) ∨
  (zeroS rs = false ∧ s.st = 2 ∧ (fr + 1 ≤ s.sk ∧ s.sk ≤ s.seen ∧ s.seen - fr ≤ size ∧ s.seen ≤ 9223372036854775807) ∧ ∃ m : Nat, m < 8 ∧ s.word = m ∧ (n : Int) ≤ 2 + 9 * (s.sk - fr - 1) + m) ∨
  (s.st = 3 ∧ n ≤ 1 + 9 * size) ∨ (4 ≤ s.st ∧ n ≤ 2 + 9 * size)
theorem zero_lt {rs : Nat → Int} (h : zeroS rs = false) : nextW rs 0 < 8 := by
  have := nextW_le rs 0
  unfold zeroS at h
  simp at h
  omega
theorem nextW_gt (rs : Nat → Int) (m : Nat) (hm : m < 8) : m + 1 ≤ nextW rs (m + 1) := nextW_ge rs (m + 1) (by omega)
/-- A step. -/
theorem WInv.step {size : Nat} {fr : Int} {rs : Nat → Int} {s : CS} {n : Nat} (h : WInv size fr rs s n) (h4 : s.st < 4) (last : Bool) (v : Int) (hv : v ≤ 9223372036854775807) (s' : CS) (kd er : Int) (hs : stepK size fr rs last s v = (s', kd, er)) :
    (kd = 1 ∧ er = 0 ∧ WInv size fr rs s' n) ∨ ((kd = 2 ∨ kd = 3 ∨ kd = 4) ∧ WInv size fr rs s' (n + 1) ∧ (er = 0 ∨ er = 4 ∨ (er = 3 ∧ ∃ m : Nat, m < 8 ∧ addrK size s = (3, slotZ s.sk size, (m : Int)) ∧ bits .and .u64 (IntKind.u64.wrap v) (rs m) ≠ 0))) := by
  unfold stepK at hs
  rcases h with ⟨h0, rfl⟩ | ⟨hz, h0, ⟨h1, h2, h3, hse⟩, hn⟩ | ⟨hz, h0, ⟨h1, h2, h3, hse⟩, m, hm, hw, hn⟩ | ⟨h0, hn⟩ | ⟨h0, hn⟩
  · rw [if_pos h0] at hs
    split at hs
    · obtain ⟨rfl, rfl, rfl⟩ := by simpa using hs
      exact .inr ⟨.inr (.inl rfl), .inr (.inr (.inr (.inr ⟨by show (4 : Int) ≤ 4; omega, by omega⟩))), .inl rfl⟩
    · rename_i hc
      split at hs
      · obtain ⟨rfl, rfl, rfl⟩ := by simpa using hs
        exact .inr ⟨.inr (.inr rfl), .inr (.inr (.inr (.inr ⟨by show (4 : Int) ≤ 5; omega, by omega⟩))), .inr (.inl rfl)⟩
      · rename_i hf
        obtain ⟨rfl, rfl, rfl⟩ := by simpa using hs
        have hz : zeroS rs = false := by cases h : zeroS rs <;> simp_all
        have hvf : ¬ v ≤ fr := fun h => hc (.inr h)
        have hfar : v - fr ≤ size := by
          unfold farB at hf
          simp at hf
          omega
        exact .inr ⟨.inl rfl, .inr (.inl ⟨hz, rfl, ⟨by show fr + 1 ≤ fr + 1; omega, by show fr + 1 ≤ v; omega, hfar, hv⟩, by show ((0 + 1 : Nat) : Int) ≤ 1 + 9 * (fr + 1 - fr - 1); omega⟩), .inl rfl⟩
  · rw [if_neg (by omega), if_pos h0] at hs
    split at hs
    · obtain ⟨rfl, rfl, rfl⟩ := by simpa using hs
      exact .inl ⟨rfl, rfl, .inr (.inl ⟨hz, h0, ⟨h1, h2, h3, hse⟩, hn⟩)⟩
    · split at hs
      · obtain ⟨rfl, rfl, rfl⟩ := by simpa using hs
        exact .inr ⟨.inr (.inr rfl), .inr (.inr (.inr (.inr ⟨by show (4 : Int) ≤ 5; omega, by omega⟩))), .inr (.inl rfl)⟩
      · obtain ⟨rfl, rfl, rfl⟩ := by simpa using hs
        exact .inr ⟨.inl rfl, .inr (.inr (.inl ⟨hz, rfl, ⟨h1, h2, h3, hse⟩, nextW rs 0, zero_lt hz, rfl, by show ((n + 1 : Nat) : Int) ≤ 2 + 9 * (s.sk - fr - 1) + (nextW rs 0 : Nat); omega⟩)), .inl rfl⟩
  · rw [if_neg (by omega), if_neg (by omega), if_pos h0, hw, Int.toNat_natCast] at hs
    have hgt := nextW_gt rs m hm
    split at hs
    · rename_i hb
      obtain ⟨rfl, rfl, rfl⟩ := by simpa using hs
      refine .inr ⟨.inr (.inr rfl), .inr (.inr (.inr (.inr ⟨by show (4 : Int) ≤ 5; omega, by omega⟩))), .inr (.inr ⟨rfl, m, hm, ?_, hb⟩)⟩
      unfold addrK
      rw [if_neg (by omega), if_neg (by omega), hw]
    · split at hs
      · obtain ⟨rfl, rfl, rfl⟩ := by simpa using hs
        rename_i hx
        exact .inr ⟨.inl rfl, .inr (.inr (.inl ⟨hz, h0, ⟨h1, h2, h3, hse⟩, nextW rs (m + 1), hx, rfl, by show ((n + 1 : Nat) : Int) ≤ 2 + 9 * (s.sk - fr - 1) + (nextW rs (m + 1) : Nat); omega⟩)), .inl rfl⟩
      · split at hs
        · rename_i hlt
          obtain ⟨rfl, rfl, rfl⟩ := by simpa using hs
          exact .inr ⟨.inl rfl, .inr (.inl ⟨hz, rfl, ⟨by show fr + 1 ≤ s.sk + 1; omega, by show s.sk + 1 ≤ s.seen; omega, h3, hse⟩, by show ((n + 1 : Nat) : Int) ≤ 1 + 9 * (s.sk + 1 - fr - 1); omega⟩), .inl rfl⟩
        · split at hs
          · obtain ⟨rfl, rfl, rfl⟩ := by simpa using hs
            exact .inr ⟨.inl rfl, .inr (.inr (.inr (.inl ⟨rfl, by omega⟩))), .inl rfl⟩
          · obtain ⟨rfl, rfl, rfl⟩ := by simpa using hs
            exact .inr ⟨.inr (.inl rfl), .inr (.inr (.inr (.inr ⟨by show (4 : Int) ≤ 4; omega, by omega⟩))), .inl rfl⟩
  · rw [if_neg (by omega), if_neg (by omega), if_neg (by omega)] at hs
    split at hs
    · obtain ⟨rfl, rfl, rfl⟩ := by simpa using hs
      exact .inr ⟨.inr (.inr rfl), .inr (.inr (.inr (.inr ⟨by show (4 : Int) ≤ 5; omega, by omega⟩))), .inr (.inl rfl)⟩
    · obtain ⟨rfl, rfl, rfl⟩ := by simpa using hs
      exact .inr ⟨.inr (.inl rfl), .inr (.inr (.inr (.inr ⟨by show (4 : Int) ≤ 4; omega, by omega⟩))), .inl rfl⟩
  · omega
theorem WInv.bound {size : Nat} {fr : Int} {rs : Nat → Int} {s : CS} {n : Nat} (h : WInv size fr rs s n) : n ≤ 2 + 9 * size := by
  rcases h with ⟨h0, rfl⟩ | ⟨hz, h0, ⟨h1, h2, h3, hse⟩, hn⟩ | ⟨hz, h0, ⟨h1, h2, h3, hse⟩, m, hm, hw, hn⟩ | ⟨h0, hn⟩ | ⟨h0, hn⟩ <;> omega
end Go.Proofs.Ytojkeahffabifaa
namespace Go.Proofs.Ytojkeahffabifaa
open Go.RowKit
/-- The words that aren't 0, from k on. -/
def wordsF (rs : Nat → Int) (k : Nat) : List Nat := if h : k < 8 then (if rs k = 0 then wordsF rs (k + 1) else k :: wordsF rs (k + 1)) else []
termination_by 8 - k
theorem wordsF_end (rs : Nat → Int) : wordsF rs 8 = [] := by
  rw [wordsF, dif_neg (by decide)]
theorem wordsF_zero {rs : Nat → Int} {k : Nat} (h : k < 8) (hz : rs k = 0) : wordsF rs k = wordsF rs (k + 1) := by
  rw [wordsF, dif_pos h, if_pos hz]
theorem wordsF_here {rs : Nat → Int} {k : Nat} (h : k < 8) (hz : rs k ≠ 0) : wordsF rs k = k :: wordsF rs (k + 1) := by
  rw [wordsF, dif_pos h, if_neg hz]
/-- The first of them. -/
theorem wordsF_next (rs : Nat → Int) (k : Nat) (hk : k ≤ 8) : wordsF rs k = if nextW rs k < 8 then nextW rs k :: wordsF rs (nextW rs k + 1) else [] := by
  by_cases h : k < 8
  · by_cases hz : rs k = 0
    · rw [wordsF_zero h hz, nextW_zero h hz]
      exact wordsF_next rs (k + 1) (by omega)
    · rw [nextW_here h hz, if_pos h]
      exact wordsF_here h hz
  · obtain rfl : k = 8 := by omega
    rw [nextW_end, if_neg (by decide)]
    exact wordsF_end rs
termination_by 8 - k
theorem wordsF_len (rs : Nat → Int) (k : Nat) : (wordsF rs k).length ≤ 8 - k := by
  unfold wordsF
  split
  · split
    · have := wordsF_len rs (k + 1); omega
    · have := wordsF_len rs (k + 1); simp; omega
  · simp
termination_by 8 - k
/-- A load is taken in. -/
def repStep (size : Nat) (fr : Int) (rs : Nat → Int) (last : Bool) (p : CS × Int) (v : Int) : CS × Int := ((stepK size fr rs last p.1 v).1, (stepK size fr rs last p.1 v).2.2)
/-- The check behind loads. -/
def Rep (size : Nat) (fr : Int) (rs : Nat → Int) (last : Bool) (L : List Int) : CS × Int := L.foldl (repStep size fr rs last) (⟨0, fr, 0, 0, 0⟩, 0)
theorem Rep_snoc (size : Nat) (fr : Int) (rs : Nat → Int) (last : Bool) (L : List Int) (v : Int) : Rep size fr rs last (L ++ [v]) = repStep size fr rs last (Rep size fr rs last L) v := by simp [Rep, List.foldl_append]
theorem Rep_take {size : Nat} {fr : Int} {rs : Nat → Int} {last : Bool} {L : List Int} {k : Nat} {v : Int} (h : L[k]? = some v) : Rep size fr rs last (L.take (k + 1)) = repStep size fr rs last (Rep size fr rs last (L.take k)) v := by
  rw [List.take_add_one, h]
  exact Rep_snoc _ _ _ _ _ _
/-- No load was taken in behind the end, and none of a wait. -/
def RepOk (size : Nat) (fr : Int) (rs : Nat → Int) (last : Bool) (L : List Int) : Prop := ∀ k v, L[k]? = some v → (Rep size fr rs last (L.take k)).1.st < 4 ∧ (stepK size fr rs last (Rep size fr rs last (L.take k)).1 v).2.1 ≠ 1
/-- The plan by the state: through, error, start, seen, address, least. -/
def planK (size : Nat) (p : CS × Int) : Bool × Int × Int × Int × Int × Int × Int × Int :=
  if p.1.st = 4 then (true, 0, p.1.start, p.1.seen, 0, 0, 0, 0) else if 4 ≤ p.1.st then (true, p.2, 0, 0, 0, 0, 0, 0)
  else (false, 0, 0, 0, (addrK size p.1).1, (addrK size p.1).2.1, (addrK size p.1).2.2, if p.1.st = 1 then p.1.sk else 0)
theorem RepOk.snoc {size : Nat} {fr : Int} {rs : Nat → Int} {last : Bool} {L : List Int} (h : RepOk size fr rs last L) {v : Int} (h4 : (Rep size fr rs last L).1.st < 4) (h1 : (stepK size fr rs last (Rep size fr rs last L).1 v).2.1 ≠ 1) : RepOk size fr rs last (L ++ [v]) := by
  intro k u hk
  rcases Nat.lt_trichotomy k L.length with hl | hl | hl
  · rw [List.getElem?_append_left hl] at hk
    rw [List.take_append_of_le_length (by omega)]
    exact h k u hk
  · subst hl
    rw [List.getElem?_append_right (Nat.le_refl _), Nat.sub_self] at hk
    have : v = u := by simpa using hk
    subst this
    rw [List.take_append_of_le_length (Nat.le_refl _), List.take_length]
    exact ⟨h4, h1⟩
  · rw [List.getElem?_eq_none (by simp; omega)] at hk
    cases hk
theorem take_full {L : List Int} {k : Nat} (h : k = L.length) : L.take k = L := by rw [h, List.take_length]
/-- The end was reached: nothing is left. -/
theorem RepOk.last {size : Nat} {fr : Int} {rs : Nat → Int} {last : Bool} {L : List Int} (h : RepOk size fr rs last L) {k : Nat} (hk : k ≤ L.length) (h4 : 4 ≤ (Rep size fr rs last (L.take k)).1.st) : L.take k = L := by
  by_cases e : k = L.length
  · exact take_full e
  · have hx := List.getElem?_eq_getElem (show k < L.length by omega)
    have := (h k _ hx).1
    omega
open Go.RowKit
section
variable {size : Nat} {fr : Int} {rs : Nat → Int} {last : Bool} {L : List Int} {A : Nat} {st sn sk wd v : Int} {m : Nat}
theorem rep_far {n : Int} (hz : zeroS rs = false) (hn : ¬ n ≤ fr) (hf : farB size fr n = true) : repStep size fr rs last (⟨0, fr, 0, 0, 0⟩, 0) n = (⟨5, fr, n, 0, 0⟩, 4) := by
  simp [repStep, stepK, hz, hn, hf]
theorem rep_near {n : Int} (hz : zeroS rs = false) (hn : ¬ n ≤ fr) (hf : farB size fr n = false) : repStep size fr rs last (⟨0, fr, 0, 0, 0⟩, 0) n = (⟨1, fr, n, fr + 1, 0⟩, 0) := by
  simp [repStep, stepK, hz, hn, hf]
theorem rep_laid (ha : Rep size fr rs last (L.take A) = (⟨1, st, sn, sk, wd⟩, 0)) (hx : L[A]? = some v) (hl : laidB v sk = true) : Rep size fr rs last (L.take (A + 1)) = (⟨2, if (v % 2 == 1 && st == sk - 1) = true then sk else st, sn, sk, nextW rs 0⟩, 0) := by
  have e : v / 2 = sk := by simpa [laidB] using hl
  rw [Rep_take hx, ha]
  subst e
  simp [repStep, stepK]
theorem rep_unlaid (hok : RepOk size fr rs last L) (ha : Rep size fr rs last (L.take A) = (⟨1, st, sn, sk, wd⟩, 0)) (hx : L[A]? = some v) (hl : laidB v sk = false) : Rep size fr rs last (L.take (A + 1)) = (⟨5, st, sn, sk, wd⟩, 4) := by
  have e : ¬ v / 2 = sk := by simpa [laidB] using hl
  have h1 := (hok A v hx).2
  rw [ha] at h1
  have h2 : ¬ v / 2 < sk := fun h => h1 (by simp [stepK, h])
  rw [Rep_take hx, ha]
  simp [repStep, stepK, h2, (show sk < v / 2 by omega)]
theorem rep_hit (ha : Rep size fr rs last (L.take A) = (⟨2, st, sn, sk, m⟩, 0)) (hx : L[A]? = some v) (hl : bits .and .u64 (IntKind.u64.wrap v) (rs m) ≠ 0) : Rep size fr rs last (L.take (A + 1)) = (⟨5, st, sn, sk, m⟩, 3) := by
  rw [Rep_take hx, ha]
  simp [repStep, stepK, hl]
theorem rep_word (ha : Rep size fr rs last (L.take A) = (⟨2, st, sn, sk, m⟩, 0)) (hx : L[A]? = some v) (hl : bits .and .u64 (IntKind.u64.wrap v) (rs m) = 0) (hn : nextW rs (m + 1) < 8) : Rep size fr rs last (L.take (A + 1)) = (⟨2, st, sn, sk, nextW rs (m + 1)⟩, 0) := by
  rw [Rep_take hx, ha]
  simp [repStep, stepK, hl, hn]
theorem rep_slot (ha : Rep size fr rs last (L.take A) = (⟨2, st, sn, sk, m⟩, 0)) (hx : L[A]? = some v) (hl : bits .and .u64 (IntKind.u64.wrap v) (rs m) = 0) (hn : ¬ nextW rs (m + 1) < 8) (hs : sk < sn) : Rep size fr rs last (L.take (A + 1)) = (⟨1, st, sn, sk + 1, nextW rs (m + 1)⟩, 0) := by
  rw [Rep_take hx, ha]
  simp [repStep, stepK, hl, hn, hs]
theorem rep_over (ha : Rep size fr rs last (L.take A) = (⟨2, st, sn, sk, m⟩, 0)) (hx : L[A]? = some v) (hl : bits .and .u64 (IntKind.u64.wrap v) (rs m) = 0) (hn : ¬ nextW rs (m + 1) < 8) (hs : ¬ sk < sn) : Rep size fr rs last (L.take (A + 1)) = (⟨if last = true then 3 else 4, st, sn, sk, nextW rs (m + 1)⟩, 0) := by
  rw [Rep_take hx, ha]
  cases last <;> simp [repStep, stepK, hl, hn, hs]
theorem rep_again (ha : Rep size fr rs last (L.take A) = (⟨3, st, sn, sk, wd⟩, 0)) (hx : L[A]? = some v) : Rep size fr rs last (L.take (A + 1)) = if farB size fr v = true then (⟨5, st, sn, sk, wd⟩, 4) else (⟨4, st, sn, sk, wd⟩, 0) := by
  rw [Rep_take hx, ha]
  cases h : farB size fr v <;> simp [repStep, stepK, h]
end
/-- The outer loop's state. -/
def OutOk (size : Nat) (fr : Int) (rs : Nat → Int) (last : Bool) (L : List Int) (sn sk st : Int) (A : Nat) : Prop := ∃ wd, (sk < sn → Rep size fr rs last (L.take A) = (⟨1, st, sn, sk + 1, wd⟩, 0)) ∧ (¬ sk < sn → Rep size fr rs last (L.take A) = (⟨if last = true then 3 else 4, st, sn, sk, wd⟩, 0))
/-- The inner loop's state. -/
def InOk (size : Nat) (fr : Int) (rs : Nat → Int) (last : Bool) (L : List Int) (sn sk st : Int) (A j : Nat) : Prop := (∃ m, m < 8 ∧ (wordsF rs 0).drop j = m :: wordsF rs (m + 1) ∧ Rep size fr rs last (L.take A) = (⟨2, st, sn, sk, m⟩, 0)) ∨ (j = (wordsF rs 0).length ∧ OutOk size fr rs last L sn sk st A)
section
variable {size : Nat} {fr : Int} {rs : Nat → Int} {last : Bool} {L : List Int} {A j : Nat} {st sn sk wd v : Int} {m : Nat}
theorem InOk.start (hz : zeroS rs = false) (h : Rep size fr rs last (L.take A) = (⟨2, st, sn, sk, nextW rs 0⟩, 0)) : InOk size fr rs last L sn sk st A 0 := by
  have h8 : nextW rs 0 < 8 := by
    have := nextW_le rs 0
    unfold zeroS at hz
    simp at hz
    omega
  refine .inl ⟨nextW rs 0, h8, ?_, h⟩
  rw [List.drop_zero]
  conv => lhs; rw [wordsF_next rs 0 (by decide), if_pos h8]
theorem InOk.at (h : InOk size fr rs last L sn sk st A j) (hj : j < (wordsF rs 0).length) : ∃ m, m < 8 ∧ (wordsF rs 0)[j]? = some m ∧ (wordsF rs 0).drop j = m :: wordsF rs (m + 1) ∧ Rep size fr rs last (L.take A) = (⟨2, st, sn, sk, m⟩, 0) := by
  rcases h with ⟨m, h1, h2, h3⟩ | ⟨h1, _⟩
  · refine ⟨m, h1, ?_, h2, h3⟩
    have := congrArg (fun x => x[0]?) h2
    simpa using this
  · omega
theorem InOk.end (h : InOk size fr rs last L sn sk st A j) (hj : ¬ j < (wordsF rs 0).length) : OutOk size fr rs last L sn sk st A := by
  rcases h with ⟨m, h1, h2, h3⟩ | ⟨_, h⟩
  · have := congrArg List.length h2
    simp at this
    omega
  · exact h
theorem InOk.step (hm : m < 8) (hd : (wordsF rs 0).drop j = m :: wordsF rs (m + 1)) (ha : Rep size fr rs last (L.take A) = (⟨2, st, sn, sk, m⟩, 0)) (hx : L[A]? = some v) (hl : bits .and .u64 (IntKind.u64.wrap v) (rs m) = 0) : InOk size fr rs last L sn sk st (A + 1) (j + 1) := by
  have hd1 : (wordsF rs 0).drop (j + 1) = wordsF rs (m + 1) := by
    have := congrArg List.tail hd
    simpa using this
  by_cases hn : nextW rs (m + 1) < 8
  · refine .inl ⟨nextW rs (m + 1), hn, ?_, rep_word ha hx hl hn⟩
    rw [hd1]
    conv => lhs; rw [wordsF_next rs (m + 1) (by omega), if_pos hn]
  · have hl1 : (wordsF rs 0).length = j + 1 := by
      have h0 := congrArg List.length hd
      have h1 := congrArg List.length hd1
      rw [wordsF_next rs (m + 1) (by omega), if_neg hn] at h1
      simp at h0 h1
      omega
    exact .inr ⟨hl1.symm, nextW rs (m + 1), fun hs => rep_slot ha hx hl hn hs, fun hs => rep_over ha hx hl hn hs⟩
end
open Go.RowKit
/-- The numbers' bounds, and how many loads there were. -/
def KInv (size : Nat) (fr : Int) (rs : Nat → Int) (s : CS) (len : Nat) : Prop :=
  (s.st = 0 ∧ len = 0) ∨
  (s.st = 1 ∧ zeroS rs = false ∧ s.seen - fr ≤ size ∧ s.seen ≤ 9223372036854775807 ∧ fr + 1 ≤ s.sk ∧ s.sk ≤ s.seen ∧ (len : Int) ≤ 1 + 9 * (s.sk - fr - 1)) ∨
  (s.st = 2 ∧ zeroS rs = false ∧ s.seen - fr ≤ size ∧ s.seen ≤ 9223372036854775807 ∧ fr + 1 ≤ s.sk ∧ s.sk ≤ s.seen ∧ ∃ m : Nat, m < 8 ∧ s.word = m ∧ (len : Int) ≤ 2 + 9 * (s.sk - fr - 1) + m) ∨
  (s.st = 3 ∧ len ≤ 200) ∨ ((s.st = 4 ∨ s.st = 5) ∧ len ≤ 300)
theorem KInv.len {size : Nat} {fr : Int} {rs : Nat → Int} {s : CS} {len : Nat} (hs : size ≤ 16) (h : KInv size fr rs s len) : len ≤ 300 := by
  unfold KInv at h
  rcases h with h | ⟨_, _, _, _, _, _, h⟩ | ⟨_, _, _, _, _, _, m, _, _, h⟩ | h | h <;> omega
theorem KInv.step {size : Nat} {fr : Int} {rs : Nat → Int} {last : Bool} {s : CS} {len : Nat} {v : Int} (hs : size ≤ 16) (h : KInv size fr rs s len) (h4 : s.st < 4) (hv : I64 v) (h1 : (stepK size fr rs last s v).2.1 ≠ 1) : KInv size fr rs (stepK size fr rs last s v).1 (len + 1) := by
  obtain ⟨hv1, hv2⟩ := hv
  rcases h with ⟨h0, h⟩ | ⟨h0, hz, a1, a2, a3, a4, h⟩ | ⟨h0, hz, a1, a2, a3, a4, m, hm, hw, h⟩ | ⟨h0, h⟩ | ⟨h0, h⟩
  · unfold stepK
    rw [if_pos h0]
    split
    · exact .inr (.inr (.inr (.inr ⟨.inl rfl, by omega⟩)))
    · rename_i hn
      have hz : zeroS rs = false := by
        cases hzz : zeroS rs
        · rfl
        · exact absurd (.inl hzz) hn
      have hn2 : ¬ v ≤ fr := fun h => hn (.inr h)
      split
      · exact .inr (.inr (.inr (.inr ⟨.inr rfl, by omega⟩)))
      · rename_i hf
        have hf2 : v - fr ≤ size := by
          unfold farB at hf
          simp at hf
          omega
        refine .inr (.inl ⟨rfl, hz, ?_, ?_, ?_, ?_, ?_⟩) <;> simp <;> omega
  · unfold stepK at h1 ⊢
    rw [if_neg (by omega), if_pos h0] at h1 ⊢
    split
    · rename_i hlt
      rw [if_pos hlt] at h1
      exact absurd rfl h1
    · split
      · exact .inr (.inr (.inr (.inr ⟨.inr rfl, by omega⟩)))
      · have hw8 : nextW rs 0 < 8 := by
          have := nextW_le rs 0
          unfold zeroS at hz
          simp at hz
          omega
        exact .inr (.inr (.inl ⟨rfl, hz, a1, a2, a3, a4, nextW rs 0, hw8, rfl, by simp; omega⟩))
  · have hge := nextW_ge rs (m + 1) (by omega)
    have hmt : s.word.toNat = m := by omega
    unfold stepK
    rw [if_neg (by omega), if_neg (by omega), if_pos h0, hmt]
    split
    · exact .inr (.inr (.inr (.inr ⟨.inr rfl, by omega⟩)))
    · split
      · rename_i h8
        exact .inr (.inr (.inl ⟨h0, hz, a1, a2, a3, a4, nextW rs (m + 1), h8, rfl, by simp; omega⟩))
      · split
        · rename_i hlt
          refine .inr (.inl ⟨rfl, hz, a1, a2, ?_, ?_, ?_⟩) <;> simp <;> omega
        · split
          · exact .inr (.inr (.inr (.inl ⟨rfl, by omega⟩)))
          · exact .inr (.inr (.inr (.inr ⟨.inl rfl, by omega⟩)))
  · unfold stepK
    rw [if_neg (by omega), if_neg (by omega), if_neg (by omega)]
    split
    · exact .inr (.inr (.inr (.inr ⟨.inr rfl, by omega⟩)))
    · exact .inr (.inr (.inr (.inr ⟨.inl rfl, by omega⟩)))
  · omega
/-- What a step answers, by the state behind it. -/
theorem step_says {size : Nat} {fr : Int} {rs : Nat → Int} {last : Bool} {s : CS} {len : Nat} {v : Int} (h : KInv size fr rs s len) (h4 : s.st < 4) :
    let q := stepK size fr rs last s v
    (q.2.1 = 1 ∧ q.1 = s ∧ q.2.2 = 0 ∧ s.st = 1 ∧ v / 2 < s.sk) ∨ (¬ (s.st = 1 ∧ v / 2 < s.sk) ∧ ((q.1.st < 4 ∧ q.2.1 = 2 ∧ q.2.2 = 0) ∨ (q.1.st = 4 ∧ q.2.1 = 3 ∧ q.2.2 = 0) ∨ (q.1.st = 5 ∧ q.2.1 = 4 ∧ q.2.2 ≠ 0))) := by
  intro q
  have hq : q = stepK size fr rs last s v := rfl
  rcases h with ⟨h0, h⟩ | ⟨h0, _⟩ | ⟨h0, _⟩ | ⟨h0, h⟩ | ⟨h0, h⟩
  · refine .inr ⟨by omega, ?_⟩
    rw [hq]
    unfold stepK
    rw [if_pos h0]
    split
    · exact .inr (.inl ⟨rfl, rfl, rfl⟩)
    · split
      · exact .inr (.inr ⟨rfl, rfl, by simp⟩)
      · exact .inl ⟨by simp, rfl, rfl⟩
  · by_cases hlt : v / 2 < s.sk
    · refine .inl ?_
      rw [hq]
      unfold stepK
      rw [if_neg (by omega), if_pos h0, if_pos hlt]
      exact ⟨rfl, rfl, rfl, h0, hlt⟩
    · refine .inr ⟨by omega, ?_⟩
      rw [hq]
      unfold stepK
      rw [if_neg (by omega), if_pos h0, if_neg hlt]
      split
      · exact .inr (.inr ⟨rfl, rfl, by simp⟩)
      · exact .inl ⟨by simp, rfl, rfl⟩
  · refine .inr ⟨by omega, ?_⟩
    rw [hq]
    unfold stepK
    rw [if_neg (by omega), if_neg (by omega), if_pos h0]
    split
    · exact .inr (.inr ⟨rfl, rfl, by simp⟩)
    · split
      · exact .inl ⟨by simp; omega, rfl, rfl⟩
      · split
        · exact .inl ⟨by simp, rfl, rfl⟩
        · split
          · exact .inl ⟨by simp, rfl, rfl⟩
          · exact .inr (.inl ⟨rfl, rfl, rfl⟩)
  · refine .inr ⟨by omega, ?_⟩
    rw [hq]
    unfold stepK
    rw [if_neg (by omega), if_neg (by omega), if_neg (by omega)]
    split
    · exact .inr (.inr ⟨rfl, rfl, by simp⟩)
    · exact .inr (.inl ⟨rfl, rfl, rfl⟩)
  · omega
end Go.Proofs.Ytojkeahffabifaa
