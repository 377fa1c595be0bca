/- Plain: numbers laid down as bytes, and taken up. -/
import Derived.Test.YtecbnialcnplkaaS1
import Derived.Laws.BytesArg
namespace Go.Proofs.Ytecbnialcnplkaa
open Go.RowKit
/-- The lowest n bytes of a number, the lowest first. -/
def layL (x : Int) (n : Nat) : List Int := (List.range n).map fun i => x / 2 ^ (8 * i) % 256
theorem layL_zero (x : Int) : layL x 0 = [] := rfl
theorem layL_length (x : Int) (n : Nat) : (layL x n).length = n := by simp [layL]
theorem layL_succ (x : Int) (n : Nat) : layL x (n + 1) = layL x n ++ [x / 2 ^ (8 * n) % 256] := by simp [layL, List.range_succ]
theorem layL_getD (x : Int) (n i : Nat) (h : i < n) : (layL x n).getD i 0 = x / 2 ^ (8 * i) % 256 := by simp [layL, List.getD, h]
theorem layL_range (x : Int) (n : Nat) : ∀ d ∈ layL x n, 0 ≤ d ∧ d < 256 := by
  intro d hd
  simp [layL] at hd
  obtain ⟨i, _, rfl⟩ := hd
  exact ⟨Int.emod_nonneg _ (by decide), Int.emod_lt_of_pos _ (by decide)⟩
/-- What bytes say, the lowest first. -/
def bytesVal : List Int → Int
  | [] => 0
  | d :: r => d + 256 * bytesVal r
theorem bytesVal_range : ∀ l : List Int, (∀ d ∈ l, 0 ≤ d ∧ d < 256) → 0 ≤ bytesVal l ∧ bytesVal l < 256 ^ l.length
  | [], _ => by simp [bytesVal]
  | d :: r, h => by
    have h1 := h d (by simp)
    have h2 := bytesVal_range r fun d hd => h d (by simp [hd])
    have e : (256 : Int) ^ (d :: r).length = 256 ^ r.length * 256 := by rw [List.length_cons, Int.pow_succ]
    rw [e]
    simp only [bytesVal]
    omega
/-- .. with the sign of the highest bit. -/
def takeZ (l : List Int) : Int := if 256 ^ l.length ≤ 2 * bytesVal l then bytesVal l - 256 ^ l.length else bytesVal l
theorem emod_mul_aux (x : Int) (n : Nat) : x % (256 * 256 ^ n) = x % 256 + 256 * (x / 256 % 256 ^ n) := by
  have hp : (0 : Int) < 256 ^ n := Int.pow_pos (by decide)
  have h1 := Int.mul_ediv_add_emod x 256
  have h2 := Int.mul_ediv_add_emod (x / 256) (256 ^ n)
  have h3 := Int.emod_nonneg (x / 256) (b := 256 ^ n) (by omega)
  have h4 := Int.emod_lt_of_pos (x / 256) hp
  have h5 : x % 256 + 256 * (x / 256 % 256 ^ n) < 256 * 256 ^ n := by omega
  have h6 : x = x % 256 + 256 * (x / 256 % 256 ^ n) + 256 * 256 ^ n * (x / 256 / 256 ^ n) := by
    rw [Int.mul_assoc]; omega
  rw [h6, Int.add_mul_emod_self_left]
  have e1 : (x % 256 + 256 * (x / 256 % 256 ^ n) + 256 * 256 ^ n * (x / 256 / 256 ^ n)) = x := h6.symm
  rw [e1]
  exact Int.emod_eq_of_lt (by omega) h5
/-- The low n bytes of x, read again. -/
theorem bytesVal_layL (n : Nat) : ∀ x : Int, bytesVal (layL x n) = x % 256 ^ n := by
  induction n with
  | zero => intro x; simp [layL_zero, bytesVal]
  | succ n ih =>
    intro x
    have e : layL x (n + 1) = (x % 256) :: layL (x / 256) n := by
      unfold layL
      rw [List.range_succ_eq_map, List.map_cons, List.map_map]
      simp only [Nat.mul_zero, Int.pow_zero, Int.ediv_one]
      congr 1
      apply List.map_congr_left
      intro i _
      simp only [Function.comp]
      have : (2 : Int) ^ (8 * (i + 1)) = 256 * 2 ^ (8 * i) := by
        rw [Nat.mul_add, Int.pow_add, Int.mul_comm]; rfl
      rw [this, Int.ediv_ediv_of_nonneg (by decide)]
    rw [e, bytesVal, ih, Int.pow_succ, Int.mul_comm (256 ^ n) 256]
    exact (emod_mul_aux x n).symm
theorem pow256_le {a b : Nat} (h : a ≤ b) : (256 : Int) ^ a ≤ 256 ^ b := by
  have e := Nat.pow_le_pow_right (n := 256) (by decide) h
  rw [← Int.ofNat_le, Int.natCast_pow, Int.natCast_pow] at e
  exact e
/-- The first n bytes of a string as numbers. -/
def strNums (s : ByteArray) (n : Nat) : List Int := (s.data.toList.take n).map fun b => (b.toNat : Int)
theorem strNums_length (s : ByteArray) (n : Nat) (h : n ≤ s.size) : (strNums s n).length = n := by
  simp [strNums]
  show min n s.size = n
  omega
theorem strNums_range (s : ByteArray) (n : Nat) : ∀ d ∈ strNums s n, 0 ≤ d ∧ d < 256 := by
  intro d hd
  rw [strNums, List.mem_map] at hd
  obtain ⟨b, _, rfl⟩ := hd
  have := b.toNat_lt
  omega
theorem drop_val (s : ByteArray) (n m : Nat) (h : n ≤ s.size) (hm : m < n) :
    bytesVal ((strNums s n).drop m) = (s[m].toNat : Int) + 256 * bytesVal ((strNums s n).drop (m + 1)) := by
  have hl := strNums_length s n h
  rw [List.drop_eq_getElem_cons (by omega), bytesVal]
  congr 1
  simp [strNums]
  rfl
theorem drop_range (s : ByteArray) (n j : Nat) (h : n ≤ s.size) : 0 ≤ bytesVal ((strNums s n).drop j) ∧ bytesVal ((strNums s n).drop j) < 256 ^ (n - j) := by
  have := bytesVal_range ((strNums s n).drop j) fun d hd => strNums_range s n d (List.mem_of_mem_drop hd)
  rwa [List.length_drop, strNums_length s n h] at this
theorem or_bytes (u b : Int) (hu : 0 ≤ u) (hu1 : u < 72057594037927936) (hb : 0 ≤ b) (hb1 : b < 256) : bits .or .u64 (u * 256) b = b + 256 * u := by
  obtain ⟨a, rfl⟩ := Int.eq_ofNat_of_zero_le hu
  obtain ⟨c, rfl⟩ := Int.eq_ofNat_of_zero_le hb
  have e : ((a : Int) * 256) = ((a * 256 : Nat) : Int) := by omega
  rw [e, u64_or_nat _ _ (by omega) (by omega), nat_join 8 (a * 256) c (by omega) (by omega)]
  omega
theorem take_end (u n : Int) (hn : n = 1 ∨ n = 2 ∨ n = 4 ∨ n = 8) (h0 : 0 ≤ u) (h1 : u < 256 ^ n.toNat) :
    wrap64 (IntKind.u64.wrap (u * 2 ^ (64 - 8 * n).toNat)) / 2 ^ (64 - 8 * n).toNat = if 256 ^ n.toNat ≤ 2 * u then u - 256 ^ n.toNat else u := by
  rw [u64_wrap]
  rcases hn with rfl | rfl | rfl | rfl
  all_goals
    simp at h1 ⊢
    unfold wrap64
    split <;> omega
/-- Whether the highest byte has its highest bit. -/
theorem high_bit (l : List Int) (hl : l ≠ []) (h : ∀ d ∈ l, 0 ≤ d ∧ d < 256) : (256 ^ l.length ≤ 2 * bytesVal l) ↔ 128 ≤ l.getLast hl := by
  induction l with
  | nil => exact absurd rfl hl
  | cons d r ih =>
    have hd := h d (by simp)
    by_cases hr : r = []
    · subst hr; simp [bytesVal]; omega
    · have i := ih hr fun x hx => h x (by simp [hx])
      have e : (256 : Int) ^ (d :: r).length = 256 ^ r.length * 256 := by rw [List.length_cons, Int.pow_succ]
      rw [List.getLast_cons hr, ← i, e, bytesVal]
      have hp : (256 : Int) ^ r.length % 2 = 0 := by
        obtain ⟨k, hk⟩ : ∃ k, r.length = k + 1 := ⟨r.length - 1, by have := List.length_pos_iff.mpr hr; omega⟩
        rw [hk, Int.pow_succ]; omega
      omega
theorem tdiv256 (x : Int) (h : x % 256 = 0) : x.tdiv 256 = x / 256 := by
  rw [Int.tdiv_eq_ediv, if_pos (.inr (Int.dvd_of_emod_eq_zero h))]; omega
theorem ref_lay_step (a : Int) (h : I64 a) : wrap64 ((a - a % 256).tdiv 256) = a / 256 := by
  unfold I64 at h
  rw [tdiv256 _ (by omega)]; unfold wrap64; omega
theorem lay_half (x : Int) (k : Nat) : x / 2 ^ (8 * k) / 256 = x / 2 ^ (8 * (k + 1)) := by
  have e : (2 : Int) ^ (8 * (k + 1)) = 2 ^ (8 * k) * 256 := by rw [Nat.mul_add, Int.pow_add]; rfl
  rw [e, Int.ediv_ediv_of_nonneg (Int.le_of_lt (Int.pow_pos (by decide)))]
theorem take_last (s : ByteArray) (m : Nat) (h : m + 1 ≤ s.size) : (256 ^ (m + 1) ≤ 2 * bytesVal (strNums s (m + 1))) ↔ 128 ≤ (s[m].toNat : Int) := by
  have hl := strNums_length s (m + 1) h
  have hne : strNums s (m + 1) ≠ [] := fun e => by rw [e] at hl; simp at hl
  have hb := high_bit (strNums s (m + 1)) hne (strNums_range s (m + 1))
  rw [hl] at hb
  rw [hb, List.getLast_eq_getElem]
  have e : (strNums s (m + 1))[(strNums s (m + 1)).length - 1]'(by omega) = (s[m].toNat : Int) := by
    simp only [hl, Nat.add_sub_cancel]
    simp [strNums]
    rfl
  rw [e]
theorem drop_high (s : ByteArray) (m0 m : Nat) (h : m0 + 1 ≤ s.size) (hm : m ≤ m0) : (256 ^ (m0 + 1 - m) ≤ 2 * bytesVal ((strNums s (m0 + 1)).drop m)) ↔ 128 ≤ (s[m0].toNat : Int) := by
  have hl := strNums_length s (m0 + 1) h
  have hld : ((strNums s (m0 + 1)).drop m).length = m0 + 1 - m := by rw [List.length_drop, hl]
  have hne : (strNums s (m0 + 1)).drop m ≠ [] := fun e => by rw [e] at hld; simp at hld; omega
  have hb := high_bit ((strNums s (m0 + 1)).drop m) hne fun d hd => strNums_range s (m0 + 1) d (List.mem_of_mem_drop hd)
  rw [hld] at hb
  rw [hb, List.getLast_eq_getElem, List.getElem_drop]
  have e : (strNums s (m0 + 1))[m + (((strNums s (m0 + 1)).drop m).length - 1)]'(by rw [hld, hl]; omega) = (s[m0].toNat : Int) := by
    have e2 : m + (((strNums s (m0 + 1)).drop m).length - 1) = m0 := by rw [hld]; omega
    simp only [e2]
    simp [strNums]
    rfl
  rw [e]
theorem take_neg (s : ByteArray) (m : Nat) (h : m + 1 ≤ s.size) (hc : (128 : Int) ≤ (s[m].toNat : Int)) : bytesVal (strNums s (m + 1)) - 256 ^ (m + 1) = takeZ (strNums s (m + 1)) := by
  have ht := take_last s m h
  unfold takeZ
  rw [strNums_length _ _ h, if_pos (ht.2 hc)]
theorem take_pos (s : ByteArray) (m : Nat) (h : m + 1 ≤ s.size) (hc : (s[m].toNat : Int) < 128) : bytesVal (strNums s (m + 1)) = takeZ (strNums s (m + 1)) := by
  have ht := take_last s m h
  unfold takeZ
  rw [strNums_length _ _ h, if_neg (fun e => by have := ht.1 e; omega)]
theorem take_lay8 (v : Int) (h : I64 v) : takeZ (layL v 8) = v := by
  unfold I64 at h
  unfold takeZ
  rw [layL_length, bytesVal_layL]
  have e : (256 : Int) ^ 8 = 18446744073709551616 := rfl
  rw [e]
  split <;> omega
theorem take_lay1 (v : Int) (h0 : -128 ≤ v) (h1 : v < 128) : takeZ (layL v 1) = v := by
  unfold takeZ
  rw [layL_length, bytesVal_layL]
  have e : (256 : Int) ^ 1 = 256 := rfl
  rw [e]
  split <;> omega
theorem strNums_of (l : List Int) (t : ByteArray) (hl : ∀ d ∈ l, 0 ≤ d ∧ d < 256) : strNums (strOfNums l ++ t) l.length = l := by
  unfold strNums
  have e : (strOfNums l ++ t).data.toList = (l.map fun n => UInt8.ofNat n.toNat) ++ t.data.toList := by
    rw [ByteArray.data_append, Array.toList_append, strOfNums_data]
  rw [e, List.take_left' (by simp), List.map_map]
  conv => rhs; rw [← List.map_id l]
  apply List.map_congr_left
  intro d hd
  obtain ⟨a, b⟩ := hl d hd
  simp only [Function.comp, id]
  rw [UInt8.toNat_ofNat_of_lt' (by show _ < 256; omega)]
  omega
theorem strNums_self (l : List Int) (hl : ∀ d ∈ l, 0 ≤ d ∧ d < 256) : strNums (strOfNums l) l.length = l := by
  have := strNums_of l ByteArray.empty hl
  rwa [ByteArray.append_empty] at this
end Go.Proofs.Ytecbnialcnplkaa
