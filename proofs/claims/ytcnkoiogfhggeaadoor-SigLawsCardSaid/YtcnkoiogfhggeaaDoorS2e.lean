/- Plain: signatures read from text. -/
import Derived.Test.YtcnkoiogfhggeaaDoorS2d
namespace Go.Proofs.YtcnkoiogfhggeaaDoor
open Go.RowKit
/-- What a digit's byte says; below 0: it is none. -/
def digZ (c : Int) : Int := if 48 ≤ c ∧ c ≤ 57 then c - 48 else if 97 ≤ c ∧ c ≤ 102 then c - 87 else -1
theorem digZ_range (c : Int) : -1 ≤ digZ c ∧ digZ c < 16 := by
  unfold digZ
  repeat' split
  all_goals omega
theorem digZ_hexd (d : Nat) (h : d < 16) : digZ (hexd d) = d := by
  unfold hexd digZ
  split
  · rw [if_pos (by omega)]; omega
  · rw [if_neg (by omega), if_pos (by omega)]; omega
/-- The byte at a place of a string. -/
def chrS (s : ByteArray) (i : Nat) : Int := if h : i < s.size then (s[i].toNat : Int) else 0
theorem chrS_range (s : ByteArray) (i : Nat) : 0 ≤ chrS s i ∧ chrS s i < 256 := by
  unfold chrS
  split
  · have := s[i].toNat_lt; omega
  · omega
def badP (s : ByteArray) (i : Nat) : Bool := decide (s.size ≤ i) || decide (digZ (chrS s i) < 0)
/-- The words behind so many digits. -/
def pwS (s : ByteArray) : Nat → Nat → Int
  | 0 => noS
  | i + 1 => fun j => if j = i / 16 then pwS s i j * 16 % 18446744073709551616 + digZ (chrS s i) else pwS s i j
theorem pwS_succ (s : ByteArray) (i : Nat) : pwS s (i + 1) = fun j => if j = i / 16 then pwS s i j * 16 % 18446744073709551616 + digZ (chrS s i) else pwS s i j := rfl
theorem pwS_wds (s : ByteArray) : ∀ i, (∀ j, j < i → badP s j = false) → Wds (pwS s i)
  | 0, _ => noS_wds
  | i + 1, h => by
    have ih := pwS_wds s i (fun j hj => h j (by omega))
    have h1 := h i (by omega)
    have hd := digZ_range (chrS s i)
    simp [badP] at h1
    intro j
    rw [pwS_succ]
    dsimp only
    split
    · have := ih j; omega
    · exact ih j
/-- The place of the first byte that is wrong; 128: none of these. -/
def badAt (s : ByteArray) : Nat := ((List.range 128).find? (badP s)).getD 128
theorem badAt_of {s : ByteArray} {k : Nat} (hk : k < 128) (h : ∀ j, j < k → badP s j = false) (hb : badP s k = true) : badAt s = k := by
  unfold badAt
  have e : (List.range 128).find? (badP s) = some k := by
    rw [List.find?_range_eq_some]
    exact ⟨hb, by simpa using hk, fun j hj => by simp [h j hj]⟩
  rw [e]; rfl
theorem badAt_none {s : ByteArray} (h : ∀ j, j < 128 → badP s j = false) : badAt s = 128 := by
  unfold badAt
  have e : (List.range 128).find? (badP s) = none := by
    rw [List.find?_range_eq_none]
    intro j hj
    simp [h j hj]
  rw [e]; rfl
/-- What Parse answers. -/
def prS (s : ByteArray) : Nat → Int := if badAt s < 128 ∨ 128 < s.size then noS else pwS s 128
def prE (s : ByteArray) : Int := if badAt s < 128 ∨ 128 < s.size then 9 else 0
def prA (s : ByteArray) : Int := if badAt s < 128 ∨ 128 < s.size then badAt s else 0
theorem pr_bad {s : ByteArray} {k : Nat} (hk : k < 128) (h : ∀ j, j < k → badP s j = false) (hb : badP s k = true) : prS s = noS ∧ prE s = 9 ∧ prA s = k := by
  have e := badAt_of hk h hb
  unfold prS prE prA
  rw [e, if_pos (Or.inl hk), if_pos (Or.inl hk), if_pos (Or.inl hk)]
  exact ⟨rfl, rfl, rfl⟩
theorem pr_long {s : ByteArray} (h : ∀ j, j < 128 → badP s j = false) (hb : 128 < s.size) : prS s = noS ∧ prE s = 9 ∧ prA s = 128 := by
  have e := badAt_none h
  unfold prS prE prA
  rw [e, if_pos (Or.inr hb), if_pos (Or.inr hb), if_pos (Or.inr hb)]
  exact ⟨rfl, rfl, rfl⟩
theorem pr_good {s : ByteArray} (h : ∀ j, j < 128 → badP s j = false) (hb : s.size ≤ 128) : prS s = pwS s 128 ∧ prE s = 0 ∧ prA s = 0 := by
  have e := badAt_none h
  unfold prS prE prA
  rw [e, if_neg (by omega), if_neg (by omega), if_neg (by omega)]
  exact ⟨rfl, rfl, rfl⟩
theorem prS_wds (s : ByteArray) : Wds (prS s) := by
  unfold prS
  split
  · exact noS_wds
  · rename_i h
    refine pwS_wds s 128 fun j hj => ?_
    cases hb : badP s j with
    | false => rfl
    | true =>
      exfalso
      apply h
      left
      unfold badAt
      cases hf : (List.range 128).find? (badP s) with
      | none =>
        rw [List.find?_range_eq_none] at hf
        have := hf j hj
        simp [hb] at this
      | some k =>
        rw [List.find?_range_eq_some] at hf
        simpa using hf.2.1
/-- A word's next digit, by shift and or. -/
theorem pw_or (x d : Int) (h0 : 0 ≤ d) (h1 : d < 16) : bits .or .u64 (IntKind.u64.wrap (x * 16)) d = x * 16 % 18446744073709551616 + d := by
  rw [u64_wrap]
  obtain ⟨a, ha⟩ : ∃ a : Nat, x * 16 % 18446744073709551616 = ((a * 16 : Nat) : Int) := ⟨(x * 16 % 18446744073709551616 / 16).toNat, by omega⟩
  obtain ⟨b, rfl⟩ := Int.eq_ofNat_of_zero_le h0
  rw [ha, u64_or_nat _ _ (by omega) (by omega)]
  have e := nat_join 4 (a * 16) b (by omega) (by omega)
  rw [e]
  omega
/-! ### there and back -/
theorem textL_get (s : Nat → Int) : ∀ (n i : Nat), i < 16 * n → (textL s n)[i]? = some (hexd (digN (s (i / 16)).toNat (15 - i % 16)))
  | 0, i, h => by omega
  | n + 1, i, h => by
    rw [textL_succ]
    by_cases hi : i < 16 * n
    · rw [List.getElem?_append_left (by rw [textL_length]; exact hi)]
      exact textL_get s n i hi
    · rw [List.getElem?_append_right (by rw [textL_length]; omega), textL_length]
      have e1 : i / 16 = n := by omega
      have e2 : i - 16 * n = i % 16 := by omega
      rw [e1, e2]
      unfold wordL
      rw [List.getElem?_map, List.getElem?_range (by omega)]
      rfl
theorem chrS_text (s : Nat → Int) (i : Nat) (h : i < 128) : chrS (strOfNums (textL s 8)) i = hexd (digN (s (i / 16)).toNat (15 - i % 16)) := by
  have hr := hexd_range (digN (s (i / 16)).toNat (15 - i % 16)) (digN_lt _ _)
  have hg := textL_get s 8 i (by omega)
  have hz : i < (strOfNums (textL s 8)).size := by rw [strOfNums_size, textL_length]; omega
  unfold chrS
  rw [dif_pos hz]
  generalize hexd (digN (s (i / 16)).toNat (15 - i % 16)) = c at *
  have e : (strOfNums (textL s 8))[i] = UInt8.ofNat c.toNat := by
    show (strOfNums (textL s 8)).data[i] = _
    rw [← Array.getElem_toList]
    have h2 : ((textL s 8).map fun n => UInt8.ofNat n.toNat)[i]? = some (UInt8.ofNat c.toNat) := by rw [List.getElem?_map, hg]; rfl
    exact (List.getElem?_eq_some_iff.1 h2).2
  rw [e, UInt8.toNat_ofNat']
  omega
theorem pw_text (s : Nat → Int) (hs : Wds s) (i : Nat) (hi : i ≤ 128) (j : Nat) (hj : j < 8) : pwS (strOfNums (textL s 8)) i j = (((s j).toNat / 16 ^ (16 * (j + 1) - i) : Nat) : Int) := by
  have h64 : (s j).toNat < 18446744073709551616 := by have := hs j; omega
  have hbig : ∀ e, 16 ≤ e → (s j).toNat / 16 ^ e = 0 := by
    intro e he
    apply Nat.div_eq_of_lt
    have := Nat.pow_le_pow_right (n := 16) (by decide) he
    omega
  induction i with
  | zero => show noS j = _; rw [hbig _ (by omega)]; rfl
  | succ i ih =>
    rw [pwS_succ]
    dsimp only
    by_cases hji : j = i / 16
    · rw [if_pos hji, ih (by omega), chrS_text s i (by omega), digZ_hexd _ (digN_lt _ _), ← hji]
      have e1 : 15 - i % 16 = 16 * (j + 1) - (i + 1) := by omega
      obtain ⟨e, he⟩ : ∃ e, 16 * (j + 1) - (i + 1) = e := ⟨_, rfl⟩
      have he2 : 16 * (j + 1) - i = e + 1 := by omega
      rw [e1, he, he2]
      unfold digN
      have e3 : (s j).toNat / 16 ^ (e + 1) = (s j).toNat / 16 ^ e / 16 := by rw [Nat.pow_succ, Nat.div_div_eq_div_mul]
      rw [e3]
      have h4 : (s j).toNat / 16 ^ e ≤ (s j).toNat := Nat.div_le_self _ _
      generalize (s j).toNat / 16 ^ e = y at *
      omega
    · rw [if_neg hji, ih (by omega)]
      by_cases h2 : j < i / 16
      · have e1 : 16 * (j + 1) - i = 0 := by omega
        have e2 : 16 * (j + 1) - (i + 1) = 0 := by omega
        rw [e1, e2]
      · rw [hbig _ (by omega), hbig _ (by omega)]
theorem pr_text (s : Nat → Int) (hs : Wds s) : (∀ j, j < 8 → prS (strOfNums (textL s 8)) j = s j) ∧ prE (strOfNums (textL s 8)) = 0 ∧ prA (strOfNums (textL s 8)) = 0 := by
  have hz : (strOfNums (textL s 8)).size = 128 := by rw [strOfNums_size, textL_length]
  obtain ⟨h1, h2, h3⟩ := pr_good (s := strOfNums (textL s 8)) (fun j hj => by
    unfold badP
    rw [chrS_text s j hj, digZ_hexd _ (digN_lt _ _), hz]
    simp; omega) (by omega)
  refine ⟨fun j hj => ?_, h2, h3⟩
  rw [h1, pw_text s hs 128 (by omega) j hj, show 16 * (j + 1) - 128 = 0 by omega]
  have := hs j
  simp; omega
end Go.Proofs.YtcnkoiogfhggeaaDoor
