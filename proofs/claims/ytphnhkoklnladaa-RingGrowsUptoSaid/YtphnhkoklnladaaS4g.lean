/- Plain: the growing ring of RingGrows against the accesses. -/
import Derived.Test.YtphnhkoklnladaaS4r
import Derived.Test.YtphnhkoklnladaaG0
namespace Go.Proofs.Ytphnhkoklnladaa
open Go.RowKit
set_option linter.unusedVariables false
theorem emod16_ne {s t z : Int} (h1 : 1 ≤ z) (h2 : z ≤ 16) (hne : s ≠ t) (ha : s < t + z) (hb : t < s + z) : s % z ≠ t % z := by
  rcases (show z = 1 ∨ z = 2 ∨ z = 3 ∨ z = 4 ∨ z = 5 ∨ z = 6 ∨ z = 7 ∨ z = 8 ∨ z = 9 ∨ z = 10 ∨ z = 11 ∨ z = 12 ∨ z = 13 ∨ z = 14 ∨ z = 15 ∨ z = 16 by omega) with h | h | h | h | h | h | h | h | h | h | h | h | h | h | h | h <;> subst h <;> omega
theorem emod16_back {s z : Int} (h1 : 1 ≤ z) (h2 : z ≤ 16) : (s - z) % z = s % z := by
  rcases (show z = 1 ∨ z = 2 ∨ z = 3 ∨ z = 4 ∨ z = 5 ∨ z = 6 ∨ z = 7 ∨ z = 8 ∨ z = 9 ∨ z = 10 ∨ z = 11 ∨ z = 12 ∨ z = 13 ∨ z = 14 ∨ z = 15 ∨ z = 16 by omega) with h | h | h | h | h | h | h | h | h | h | h | h | h | h | h | h <;> subst h <;> omega
theorem slotZ_in {s : Int} {size : Nat} (h1 : 1 ≤ size) (h2 : size ≤ 16) : slotZ s size = s % size := if_pos ⟨by omega, by omega⟩
theorem slot_ne {s t : Int} {size : Nat} (h1 : 1 ≤ size) (h2 : size ≤ 16) (hne : s ≠ t) (ha : s < t + size) (hb : t < s + size) : slotZ s size ≠ slotZ t size := by
  rw [slotZ_in h1 h2, slotZ_in h1 h2]; exact emod16_ne (by omega) (by omega) hne ha hb
theorem slot_back {s : Int} {size : Nat} (h1 : 1 ≤ size) (h2 : size ≤ 16) : slotZ (s - size) size = slotZ s size := by
  rw [slotZ_in h1 h2, slotZ_in h1 h2]; exact emod16_back (by omega) (by omega)
theorem slot_range {s : Int} {size : Nat} (h1 : 1 ≤ size) (h2 : size ≤ 16) : 0 ≤ slotZ s size ∧ slotZ s size < size := by
  rw [slotZ_in h1 h2]; exact ⟨Int.emod_nonneg _ (by omega), Int.emod_lt_of_pos _ (by omega)⟩
/-- The ring: n published, a laid, d complete. -/
structure RG (size : Nat) (l : List Acc) (n a d : Int) : Prop where
  nw : wordOf l 1 0 0 = n
  d0 : 0 ≤ d
  da : d ≤ a
  an : a ≤ n
  nd : n ≤ d + size
  hd : ∀ s, a - size < s → s ≤ a → wordOf l 2 (slotZ s size) 0 = if s < 1 then 1 else if s ≤ d then 2 * s + 1 else 2 * s
  sg : ∀ s, 1 ≤ s → a - size < s → s ≤ a → wordOf l 3 (slotZ s size) 3 = s + 7
theorem putL_word {size cells : Nat} {l : List Acc} {th k i j v : Int} (h : isA size cells k i j) (a b c : Int) : wordOf (putL size cells l th k i j v) a b c = if a = k ∧ b = i ∧ c = j then v else wordOf l a b c := by
  unfold putL; rw [if_pos h, wordOf_st]; rfl
theorem rg_nil {size : Nat} : RG size [] 0 0 0 where
  nw := rfl
  d0 := by omega
  da := by omega
  an := by omega
  nd := by omega
  hd := fun s h1 h2 => by rw [if_pos (by omega)]; rfl
  sg := fun s h1 h2 h3 => by omega
section
variable {size : Nat} {l : List Acc} {n a d : Int}
theorem RG.pub (h : RG size l n a d) (hs : n - d < size) : RG size (putL size 1 l 1 1 0 0 (n + 1)) (n + 1) a d := by
  have hA : isA size 1 1 0 0 := .inl ⟨rfl, rfl, rfl⟩
  obtain ⟨e0, e1, e2, e3, e4, e5, e6⟩ := h
  refine ⟨?_, e1, e2, by omega, by omega, fun s k1 k2 => ?_, fun s k0 k1 k2 => ?_⟩
  · rw [putL_word hA, if_pos ⟨rfl, rfl, rfl⟩]
  · rw [putL_word hA, if_neg (fun q => by omega)]; exact e5 s k1 k2
  · rw [putL_word hA, if_neg (fun q => by omega)]; exact e6 s k0 k1 k2
theorem RG.lay (h : RG size l n a d) (h1 : 1 ≤ size) (h2 : size ≤ 16) (hs : a < n) : RG size (putL size 1 (putL size 1 l 2 3 (slotZ (a + 1) size) 3 (a + 1 + 7)) 2 2 (slotZ (a + 1) size) 0 (2 * (a + 1))) n (a + 1) d := by
  obtain ⟨r1, r2⟩ := slot_range (s := a + 1) h1 h2
  have hA : isA size 1 3 (slotZ (a + 1) size) 3 := .inr (.inr (.inl ⟨rfl, ⟨r1, r2⟩, by omega, by omega⟩))
  have hB : isA size 1 2 (slotZ (a + 1) size) 0 := .inr (.inl ⟨rfl, ⟨r1, r2⟩, rfl⟩)
  obtain ⟨e0, e1, e2, e3, e4, e5, e6⟩ := h
  refine ⟨?_, e1, by omega, by omega, e4, fun s k1 k2 => ?_, fun s k0 k1 k2 => ?_⟩
  · rw [putL_word hB, if_neg (fun q => by omega), putL_word hA, if_neg (fun q => by omega)]; exact e0
  · by_cases hsa : s = a + 1
    · subst hsa
      rw [putL_word hB, if_pos ⟨rfl, rfl, rfl⟩, if_neg (by omega), if_neg (by omega)]
    · have hne := slot_ne h1 h2 hsa (by omega) (by omega)
      rw [putL_word hB, if_neg (fun q => hne q.2.1), putL_word hA, if_neg (fun q => by omega)]
      exact e5 s (by omega) (by omega)
  · by_cases hsa : s = a + 1
    · subst hsa
      rw [putL_word hB, if_neg (fun q => by omega), putL_word hA, if_pos ⟨rfl, rfl, rfl⟩]
    · have hne := slot_ne h1 h2 hsa (by omega) (by omega)
      rw [putL_word hB, if_neg (fun q => by omega), putL_word hA, if_neg (fun q => hne q.2.1)]
      exact e6 s k0 (by omega) (by omega)
theorem RG.done (h : RG size l n a d) (h1 : 1 ≤ size) (h2 : size ≤ 16) (hs : d < a) : RG size (putL size 1 l 3 2 (slotZ (d + 1) size) 0 (2 * (d + 1) + 1)) n a (d + 1) := by
  obtain ⟨r1, r2⟩ := slot_range (s := d + 1) h1 h2
  have hB : isA size 1 2 (slotZ (d + 1) size) 0 := .inr (.inl ⟨rfl, ⟨r1, r2⟩, rfl⟩)
  obtain ⟨e0, e1, e2, e3, e4, e5, e6⟩ := h
  refine ⟨?_, by omega, by omega, e3, by omega, fun s k1 k2 => ?_, fun s k0 k1 k2 => ?_⟩
  · rw [putL_word hB, if_neg (fun q => by omega)]; exact e0
  · by_cases hsa : s = d + 1
    · subst hsa
      rw [putL_word hB, if_pos ⟨rfl, rfl, rfl⟩, if_neg (by omega), if_pos (by omega)]
    · have hne := slot_ne h1 h2 hsa (by omega) (by omega)
      rw [putL_word hB, if_neg (fun q => hne q.2.1), e5 s k1 k2]
      by_cases hs1 : s < 1
      · rw [if_pos hs1, if_pos hs1]
      · rw [if_neg hs1, if_neg hs1]
        by_cases hsd : s ≤ d
        · rw [if_pos hsd, if_pos (by omega)]
        · rw [if_neg hsd, if_neg (by omega)]
  · rw [putL_word hB, if_neg (fun q => by omega)]; exact e6 s k0 k1 k2
/-- What the head of a stamp's slot tells. -/
theorem RG.head (h : RG size l n a d) (h1 : 1 ≤ size) (h2 : size ≤ 16) {s : Int} (hs : 1 ≤ s) (hl : n - size < s) (hn : s ≤ n) :
    wordOf l 2 (slotZ s size) 0 = (if s ≤ d then 2 * s + 1 else if s ≤ a then 2 * s else if s - size < 1 then 1 else 2 * (s - size) + 1) := by
  obtain ⟨e0, e1, e2, e3, e4, e5, e6⟩ := h
  by_cases hsa : s ≤ a
  · rw [e5 s (by omega) hsa, if_neg (by omega)]
    by_cases hsd : s ≤ d
    · rw [if_pos hsd, if_pos hsd]
    · rw [if_neg hsd, if_neg hsd, if_pos hsa]
  · rw [← slot_back h1 h2, e5 (s - size) (by omega) (by omega), if_neg (show ¬ s ≤ d by omega), if_neg hsa]
    by_cases hz : s - size < 1
    · rw [if_pos hz, if_pos hz]
    · rw [if_neg hz, if_neg hz, if_pos (by omega)]
theorem RG.over (h : RG size l n a d) (h1 : 1 ≤ size) (h2 : size ≤ 16) {s : Int} (hs : 1 ≤ s) (hl : n - size < s) (hn : s ≤ n) : ovR l size s = decide (s ≤ d) := by
  unfold ovR overB
  rw [h.head h1 h2 hs hl hn]
  have := h.da
  have := h.nd
  by_cases hsd : s ≤ d
  · simp only [if_pos hsd]
    have e1 : (2 * s + 1) / 2 = s := by omega
    have e2 : (2 * s + 1) % 2 = 1 := by omega
    rw [e1, e2]; simp [hsd]
  · by_cases hsa : s ≤ a
    · simp only [if_neg hsd, if_pos hsa]
      have e1 : 2 * s / 2 = s := by omega
      have e2 : 2 * s % 2 = 0 := by omega
      have e3 : ¬ s < 1 := by omega
      rw [e1, e2]; simp [hsd, e3]
    · by_cases hz : s - size < 1
      · simp only [if_neg hsd, if_neg hsa, if_pos hz]; simp [hsd]; omega
      · simp only [if_neg hsd, if_neg hsa, if_neg hz]; simp [hsd]; omega
theorem RG.laid (h : RG size l n a d) (h1 : 1 ≤ size) (h2 : size ≤ 16) {s : Int} (hs : 1 ≤ s) (hl : n - size < s) (hn : s ≤ n) : ldR l size s = decide (s ≤ a) := by
  unfold ldR laidB
  rw [h.head h1 h2 hs hl hn]
  have := h.da
  have := h.nd
  by_cases hsd : s ≤ d
  · have hsa : s ≤ a := by omega
    simp only [if_pos hsd]; simp [hsa]; omega
  · by_cases hsa : s ≤ a
    · simp only [if_neg hsd, if_pos hsa]; simp [hsa]
    · by_cases hz : s - size < 1
      · simp only [if_neg hsd, if_neg hsa, if_pos hz]; simp [hsa]; omega
      · simp only [if_neg hsd, if_neg hsa, if_neg hz]; simp [hsa]; omega
end
theorem complF_upto (ov : Int → Bool) (d : Int) : ∀ (m : Nat) (c : Int), c ≤ d → d ≤ c + m → (∀ s, c < s → s ≤ c + m → ov s = decide (s ≤ d)) → complF ov c ((List.range m).map fun (i : Nat) => c + 1 + i) = d
  | 0, c, h1, h2, _ => by simp [complF]; omega
  | m + 1, c, h1, h2, ho => by
    rw [List.range_succ_eq_map, List.map_cons, List.map_map]
    show (if ov (c + 1 + ((0 : Nat) : Int)) then complF ov (c + 1 + ((0 : Nat) : Int)) _ else c) = d
    have e : c + 1 + ((0 : Nat) : Int) = c + 1 := by omega
    rw [e, ho (c + 1) (by omega) (by omega)]
    by_cases hd : c + 1 ≤ d
    · rw [if_pos (decide_eq_true hd)]
      have ih := complF_upto ov d m (c + 1) hd (by omega) (fun s k1 k2 => ho s (by omega) (by omega))
      have hf : ((fun (i : Nat) => c + 1 + (i : Int)) ∘ Nat.succ) = fun (i : Nat) => c + 1 + 1 + (i : Int) := by
        funext i; simp only [Function.comp_apply]; omega
      rw [hf]; exact ih
    · rw [if_neg (by simp [hd])]; omega
theorem RG.compl {size : Nat} {l : List Acc} {n a d : Int} (h : RG size l n a d) (h1 : 1 ≤ size) (h2 : size ≤ 16) : complZ l size = d := by
  have hd0 := h.d0
  have hda := h.da
  have han := h.an
  have hnd := h.nd
  unfold complZ
  rw [h.nw]
  by_cases hn : n < 1
  · rw [if_pos hn]; omega
  · rw [if_neg hn]
    have hm : (manyR n size : Int) = min n size := by unfold manyR; omega
    unfold stampsL
    have hf : (fun (i : Nat) => n - (manyR n size : Int) + 1 + (i : Int)) = fun (i : Nat) => (n - (manyR n size : Int)) + 1 + (i : Int) := rfl
    exact complF_upto (ovR l size) d (manyR n size) (n - manyR n size) (by omega) (by omega) (fun s k1 k2 => h.over h1 h2 (by omega) (by omega) (by omega))
/-- The mark of an entry, and its word 3. -/
theorem RG.mark {size : Nat} {l : List Acc} {n a d : Int} (h : RG size l n a d) (h1 : 1 ≤ size) (h2 : size ≤ 16) {s : Int} (hs : 1 ≤ s) (hl : n - size < s) (hn : s ≤ n) : mkR l size s = if s ≤ d then 3 else if s ≤ a then 2 else 1 := by
  unfold mkR
  rw [h.over h1 h2 hs hl hn, h.laid h1 h2 hs hl hn]
  by_cases hsd : s ≤ d <;> by_cases hsa : s ≤ a <;> simp [hsd, hsa]
theorem RG.word3 {size : Nat} {l : List Acc} {n a d : Int} (h : RG size l n a d) (h1 : 1 ≤ size) (h2 : size ≤ 16) {s : Int} (hs : 1 ≤ s) (hl : n - size < s) (hn : s ≤ n) : (if ldR l size s then sgR l size s 3 else 0) = if s ≤ a then IntKind.u64.wrap (s + 7) else 0 := by
  have := h.an
  rw [h.laid h1 h2 hs hl hn]
  by_cases hsa : s ≤ a
  · have e : wordOf l 3 (slotZ s size) ((3 : Nat) : Int) = s + 7 := h.sg s hs (by omega) hsa
    unfold sgR
    rw [e]; simp [hsa]
  · simp [hsa]
end Go.Proofs.Ytphnhkoklnladaa
