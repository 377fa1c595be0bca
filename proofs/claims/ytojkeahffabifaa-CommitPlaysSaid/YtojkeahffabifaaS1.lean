/- Plain arithmetic for layers 1 and 4: no program in sight. -/
import Derived.WalkKit
import Derived.Laws.BitsAllLaws
import Derived.WalkSmall
import Derived.Laws.BytesArg
namespace Go.Proofs.Ytojkeahffabifaa
open Go.RowKit

theorem ofInt64_toNat (x : Int) : (BitVec.ofInt 64 x).toNat = (x % 18446744073709551616).toNat := by
  simp [BitVec.toNat_ofInt]

theorem u64_wrap (x : Int) : IntKind.u64.wrap x = x % 18446744073709551616 := IntKind.wrap_u64 x
theorem u64_wrap_range (x : Int) : 0 ≤ IntKind.u64.wrap x ∧ IntKind.u64.wrap x < 18446744073709551616 := by
  rw [u64_wrap]; omega
theorem u64_wrap_id (x : Int) (h0 : 0 ≤ x) (h1 : x < 18446744073709551616) : IntKind.u64.wrap x = x := by
  rw [u64_wrap]; omega
theorem wrap64_id (x : Int) (h0 : -9223372036854775808 ≤ x) (h1 : x ≤ 9223372036854775807) : wrap64 x = x := by
  unfold wrap64; omega
theorem wrap64_range (x : Int) : -9223372036854775808 ≤ wrap64 x ∧ wrap64 x ≤ 9223372036854775807 := by
  unfold wrap64; omega

/-- A number that an int64 holds. -/
def I64 (x : Int) : Prop := -9223372036854775808 ≤ x ∧ x ≤ 9223372036854775807
/-- A number that a uint64 holds. -/
def U64 (x : Int) : Prop := 0 ≤ x ∧ x < 18446744073709551616
theorem I64.of_wf {x : Int} (h : (Lit.int .i64 x).wf = true) : I64 x := by
  simp [Lit.wf, IntKind.min, IntKind.max, IntKind.bits, IntKind.signed] at h; unfold I64; omega
theorem U64.of_wf {x : Int} (h : (Lit.int .u64 x).wf = true) : U64 x := by
  simp [Lit.wf, IntKind.min, IntKind.max, IntKind.bits, IntKind.signed] at h; unfold U64; omega
theorem I64.wrap {x : Int} (h : I64 x) : wrap64 x = x := wrap64_id x h.1 h.2
theorem I64.mk {x : Int} (h : -9223372036854775808 ≤ x ∧ x ≤ 9223372036854775807) : I64 x := h
theorem U64.mk {x : Int} (h : 0 ≤ x ∧ x < 18446744073709551616) : U64 x := h
theorem I64_wrap64 (x : Int) : I64 (wrap64 x) := wrap64_range x
theorem U64_wrap (x : Int) : U64 (IntKind.u64.wrap x) := u64_wrap_range x

theorem and1_i64 (x : Int) : bits .and .i64 x 1 = x % 2 := by
  unfold bits
  rw [IntKind.wrap_i64]
  have : (BitVec.ofInt IntKind.i64.bits x &&& BitVec.ofInt IntKind.i64.bits 1).toNat = (x % 18446744073709551616).toNat % 2 := by
    show (BitVec.ofInt 64 x &&& BitVec.ofInt 64 1).toNat = _
    rw [BitVec.toNat_and, ofInt64_toNat, ofInt64_toNat]
    exact Nat.and_one_is_mod _
  simp only [this]
  omega

theorem or1_i64 (x : Int) : bits .or .i64 (wrap64 (x * 2)) 1 = wrap64 (x * 2) + 1 := by
  unfold bits
  rw [IntKind.wrap_i64]
  have : (BitVec.ofInt IntKind.i64.bits (wrap64 (x * 2)) ||| BitVec.ofInt IntKind.i64.bits 1).toNat = (wrap64 (x * 2) % 18446744073709551616).toNat + 1 := by
    show (BitVec.ofInt 64 (wrap64 (x * 2)) ||| BitVec.ofInt 64 1).toNat = _
    rw [BitVec.toNat_or, ofInt64_toNat, ofInt64_toNat]
    exact nat_join 1 _ 1 (by unfold wrap64; omega) (by decide)
  simp only [this]
  unfold wrap64
  omega

/-! ### xor with what is shifted down by 33 places -/
def xsh (x : Int) : Int := bits .xor .u64 x (x / 8589934592)
theorem xsh_nat (a : Nat) (h : a < 18446744073709551616) : xsh (a : Int) = ((a ^^^ a / 8589934592 : Nat) : Int) := by
  unfold xsh
  have e : (a : Int) / 8589934592 = ((a / 8589934592 : Nat) : Int) := by omega
  rw [e]
  exact u64_xor_nat a _ h (by omega)
theorem nat_xsh_lt (a : Nat) (h : a < 18446744073709551616) : a ^^^ a / 8589934592 < 18446744073709551616 :=
  Nat.xor_lt_two_pow (n := 64) h (by omega)
theorem xsh_range (x : Int) (h0 : 0 ≤ x) (h1 : x < 18446744073709551616) : 0 ≤ xsh x ∧ xsh x < 18446744073709551616 := by
  obtain ⟨a, rfl⟩ := Int.eq_ofNat_of_zero_le h0
  rw [xsh_nat a (by omega)]
  have := nat_xsh_lt a (by omega)
  omega
theorem nat_xsh_twice (a : Nat) (h : a < 18446744073709551616) : (a ^^^ a / 8589934592) ^^^ (a ^^^ a / 8589934592) / 8589934592 = a := by
  have e : ∀ n : Nat, n / 8589934592 = n >>> 33 := fun n => by rw [Nat.shiftRight_eq_div_pow]
  rw [e, e, Nat.shiftRight_xor_distrib, ← Nat.shiftRight_add]
  have z : a >>> (33 + 33) = 0 := by rw [Nat.shiftRight_eq_div_pow]; exact Nat.div_eq_of_lt (by omega)
  rw [z, Nat.xor_zero, Nat.xor_assoc, Nat.xor_self, Nat.xor_zero]
theorem xsh_twice (x : Int) (h0 : 0 ≤ x) (h1 : x < 18446744073709551616) : xsh (xsh x) = x := by
  obtain ⟨a, rfl⟩ := Int.eq_ofNat_of_zero_le h0
  have h : a < 18446744073709551616 := by omega
  rw [xsh_nat a h, xsh_nat _ (nat_xsh_lt a h), nat_xsh_twice a h]

/-- Mix of a word, written out. -/
def mixR (x : Int) : Int :=
  xsh (IntKind.u64.wrap (xsh (IntKind.u64.wrap (xsh x * 18397679294719823053)) * 14181476777654086739))
theorem mix_ex : ∃ f : Int → Int, ∀ x, f x = mixR x := ⟨mixR, fun _ => rfl⟩
/-- Mix of a word: a name that nothing unfolds by itself. -/
noncomputable def mixZ : Int → Int := Classical.choose mix_ex
theorem mixZ_def (x : Int) : mixZ x = mixR x := Classical.choose_spec mix_ex x
theorem mixZ_range (x : Int) : 0 ≤ mixZ x ∧ mixZ x < 18446744073709551616 := by
  rw [mixZ_def]
  unfold mixR
  exact xsh_range _ (u64_wrap_range _).1 (u64_wrap_range _).2

theorem mul_back (a c d : Int) (h : c * d % 18446744073709551616 = 1) (h0 : 0 ≤ a) (h1 : a < 18446744073709551616) : IntKind.u64.wrap (IntKind.u64.wrap (a * c) * d) = a := by
  rw [u64_wrap, u64_wrap, Int.mul_emod, Int.emod_emod, ← Int.mul_emod, Int.mul_assoc, Int.mul_emod, h]
  omega
theorem xsh_inj {x y : Int} (hx0 : 0 ≤ x) (hx1 : x < 18446744073709551616) (hy0 : 0 ≤ y) (hy1 : y < 18446744073709551616) (h : xsh x = xsh y) : x = y := by
  rw [← xsh_twice x hx0 hx1, ← xsh_twice y hy0 hy1, h]
theorem mul_inj {a b c d : Int} (h : c * d % 18446744073709551616 = 1) (ha0 : 0 ≤ a) (ha1 : a < 18446744073709551616) (hb0 : 0 ≤ b) (hb1 : b < 18446744073709551616)
    (e : IntKind.u64.wrap (a * c) = IntKind.u64.wrap (b * c)) : a = b := by
  rw [← mul_back a c d h ha0 ha1, ← mul_back b c d h hb0 hb1, e]
theorem mixZ_inj {x y : Int} (hx0 : 0 ≤ x) (hx1 : x < 18446744073709551616) (hy0 : 0 ≤ y) (hy1 : y < 18446744073709551616) (h : mixZ x = mixZ y) : x = y := by
  rw [mixZ_def, mixZ_def] at h
  unfold mixR at h
  have h2 := xsh_inj (u64_wrap_range _).1 (u64_wrap_range _).2 (u64_wrap_range _).1 (u64_wrap_range _).2 h
  have r1 := xsh_range (IntKind.u64.wrap (xsh x * 18397679294719823053)) (u64_wrap_range _).1 (u64_wrap_range _).2
  have r2 := xsh_range (IntKind.u64.wrap (xsh y * 18397679294719823053)) (u64_wrap_range _).1 (u64_wrap_range _).2
  have h3 := mul_inj (d := 11291846944257947611) (by decide) r1.1 r1.2 r2.1 r2.2 h2
  have h4 := xsh_inj (u64_wrap_range _).1 (u64_wrap_range _).2 (u64_wrap_range _).1 (u64_wrap_range _).2 h3
  have r3 := xsh_range x hx0 hx1
  have r4 := xsh_range y hy0 hy1
  have h5 := mul_inj (d := 5725274745694666757) (by decide) r3.1 r3.2 r4.1 r4.2 h4
  exact xsh_inj hx0 hx1 hy0 hy1 h5

/-- The bit of a cell. -/
noncomputable def sigHashZ (c : Int) : Int := mixZ (IntKind.u64.wrap c) / 36028797018963968
theorem sigHashZ_range (c : Int) : 0 ≤ sigHashZ c ∧ sigHashZ c < 512 := by
  have := mixZ_range (IntKind.u64.wrap c)
  unfold sigHashZ
  omega

/-! ### products, bit by bit -/
theorem times_step_odd (out x y p : Int) (hy : y % 2 = 1) (h : (out + x * y) % 18446744073709551616 = p) :
    (IntKind.u64.wrap (out + x) + IntKind.u64.wrap (x + x) * (y / 2)) % 18446744073709551616 = p := by
  obtain ⟨q, rfl⟩ : ∃ q, y = 2 * q + 1 := ⟨y / 2, by omega⟩
  have e : (2 * q + 1) / 2 = q := by omega
  rw [e, u64_wrap, u64_wrap, Int.add_emod, Int.mul_emod, Int.emod_emod, Int.emod_emod, ← Int.mul_emod, ← Int.add_emod, ← h]
  congr 1
  rw [Int.mul_add, Int.add_mul, Int.mul_one, Int.two_mul q, Int.mul_add]
  omega
theorem times_step_even (out x y p : Int) (hy : y % 2 = 0) (h : (out + x * y) % 18446744073709551616 = p) :
    (out + IntKind.u64.wrap (x + x) * (y / 2)) % 18446744073709551616 = p := by
  obtain ⟨q, rfl⟩ : ∃ q, y = 2 * q := ⟨y / 2, by omega⟩
  have e : (2 * q) / 2 = q := by omega
  rw [e, u64_wrap, Int.add_emod, Int.mul_emod, Int.emod_emod, ← Int.mul_emod, ← Int.add_emod, ← h]
  congr 1
  rw [Int.add_mul, Int.two_mul q, Int.mul_add]
theorem pow_half (x : Int) (k : Nat) : x / 2 ^ k / 2 = x / 2 ^ (k + 1) := by
  rw [Int.ediv_ediv_of_nonneg (Int.le_of_lt (Int.pow_pos (by decide))), Int.pow_succ]

/-! ### heads and slots -/
/-- A head word. -/
def headZ (s : Int) (d : Bool) : Int := wrap64 (s * 2) + (if d then 1 else 0)
theorem headZ_range (s : Int) (d : Bool) : I64 (headZ s d) := by
  unfold headZ I64 wrap64; split <;> omega
def overB (h s : Int) : Bool := decide (s < 1) || decide (s < h / 2) || (h / 2 == s && h % 2 == 1)
def laidB (h s : Int) : Bool := h / 2 == s
def slotZ (x s : Int) : Int := if 1 ≤ s ∧ s ≤ 16 then x % s else 0
def freeB (h s n : Int) : Bool := decide (1 ≤ n ∧ n ≤ 16) && (decide (s ≤ n) || overB h (s - n))
theorem tmod2 (x : Int) : x.tmod 2 = x % 2 - (if 0 ≤ x ∨ x % 2 = 0 then 0 else 2) := by
  rw [Int.tmod_eq_emod]
  split <;> split <;> rename_i h1 h2 <;> omega
theorem tdiv2 (x : Int) : x.tdiv 2 = x / 2 + (if 0 ≤ x ∨ x % 2 = 0 then 0 else 1) := by
  rw [Int.tdiv_eq_ediv]
  have e : (2 : Int).sign = 1 := rfl
  rw [e]
  split <;> split <;> rename_i h1 h2 <;> omega
theorem ref_stamp_neg (x : Int) (hx : I64 x) (h : x.tmod 2 < 0) : wrap64 ((wrap64 (x - 1)).tdiv 2) = x / 2 := by
  unfold I64 at hx
  rw [tmod2] at h
  split at h
  · omega
  · rw [wrap64_id (x - 1) (by omega) (by omega), tdiv2]
    unfold wrap64; split <;> omega
theorem ref_stamp_pos (x : Int) (hx : I64 x) (h : 0 ≤ x.tmod 2) : wrap64 ((wrap64 (x - x.tmod 2)).tdiv 2) = x / 2 := by
  unfold I64 at hx
  rw [tmod2] at h ⊢
  split at h <;> rename_i hc
  · rw [if_pos hc, wrap64_id (x - (x % 2 - 0)) (by omega) (by omega), tdiv2]
    unfold wrap64; split <;> omega
  · omega
theorem slotZ_range (x s : Int) : 0 ≤ slotZ x s ∧ slotZ x s < 16 := by
  unfold slotZ; split
  · rename_i h
    have h1 := Int.emod_nonneg x (b := s) (by omega)
    have h2 := Int.emod_lt_of_pos x (b := s) (by omega)
    omega
  · omega
theorem slotZ_lt (x s : Int) (h1 : 1 ≤ s) (h2 : s ≤ 16) : 0 ≤ slotZ x s ∧ slotZ x s < s := by
  unfold slotZ; rw [if_pos ⟨h1, h2⟩]
  exact ⟨Int.emod_nonneg x (b := s) (by omega), Int.emod_lt_of_pos x (b := s) (by omega)⟩
theorem slot_neg (x s : Int) (h1 : 1 ≤ s) (h2 : s ≤ 16) (h : x.tmod s < 0) : wrap64 (x.tmod s + s) = slotZ x s := by
  unfold slotZ; rw [if_pos ⟨h1, h2⟩]
  have h3 := Int.emod_nonneg x (b := s) (by omega)
  have h4 := Int.emod_lt_of_pos x (b := s) (by omega)
  rw [Int.tmod_eq_emod] at h ⊢
  split at h <;> rename_i hc
  · omega
  · rw [if_neg hc]
    have e : (s.natAbs : Int) = s := by omega
    unfold wrap64; omega
theorem slot_pos (x s : Int) (h1 : 1 ≤ s) (h2 : s ≤ 16) (h : 0 ≤ x.tmod s) : x.tmod s = slotZ x s := by
  unfold slotZ; rw [if_pos ⟨h1, h2⟩]
  have h3 := Int.emod_nonneg x (b := s) (by omega)
  have h4 := Int.emod_lt_of_pos x (b := s) (by omega)
  rw [Int.tmod_eq_emod] at h ⊢
  split at h <;> rename_i hc
  · rw [if_pos hc]; omega
  · have e : (s.natAbs : Int) = s := by omega
    omega
theorem slot_out (x s : Int) (h : ¬ (1 ≤ s ∧ s ≤ 16)) : slotZ x s = 0 := by unfold slotZ; rw [if_neg h]
end Go.Proofs.Ytojkeahffabifaa
namespace Go.Proofs.Ytojkeahffabifaa
open Go.RowKit
/-- The lowest n bytes of a number, the lowest first. -/
def layL (x : Int) (n : Nat) : List Int := (List.range n).map fun i => x / 2 ^ (8 * i) % 256
theorem layL_zero (x : Int) : layL x 0 = [] := rfl
theorem layL_length (x : Int) (n : Nat) : (layL x n).length = n := by simp [layL]
theorem layL_succ (x : Int) (n : Nat) : layL x (n + 1) = layL x n ++ [x / 2 ^ (8 * n) % 256] := by simp [layL, List.range_succ]
theorem layL_getD (x : Int) (n i : Nat) (h : i < n) : (layL x n).getD i 0 = x / 2 ^ (8 * i) % 256 := by simp [layL, List.getD, h]
theorem layL_range (x : Int) (n : Nat) : ∀ d ∈ layL x n, 0 ≤ d ∧ d < 256 := by
  intro d hd
  simp [layL] at hd
  obtain ⟨i, _, rfl⟩ := hd
  exact ⟨Int.emod_nonneg _ (by decide), Int.emod_lt_of_pos _ (by decide)⟩
/-- What bytes say, the lowest first. -/
def bytesVal : List Int → Int
  | [] => 0
  | d :: r => d + 256 * bytesVal r
theorem bytesVal_range : ∀ l : List Int, (∀ d ∈ l, 0 ≤ d ∧ d < 256) → 0 ≤ bytesVal l ∧ bytesVal l < 256 ^ l.length
  | [], _ => by simp [bytesVal]
  | d :: r, h => by
    have h1 := h d (by simp)
    have h2 := bytesVal_range r fun d hd => h d (by simp [hd])
    have e : (256 : Int) ^ (d :: r).length = 256 ^ r.length * 256 := by rw [List.length_cons, Int.pow_succ]
    rw [e]
    simp only [bytesVal]
    omega
/-- .. with the sign of the highest bit. -/
def takeZ (l : List Int) : Int := if 256 ^ l.length ≤ 2 * bytesVal l then bytesVal l - 256 ^ l.length else bytesVal l
theorem emod_mul_aux (x : Int) (n : Nat) : x % (256 * 256 ^ n) = x % 256 + 256 * (x / 256 % 256 ^ n) := by
  have hp : (0 : Int) < 256 ^ n := Int.pow_pos (by decide)
  have h1 := Int.mul_ediv_add_emod x 256
  have h2 := Int.mul_ediv_add_emod (x / 256) (256 ^ n)
  have h3 := Int.emod_nonneg (x / 256) (b := 256 ^ n) (by omega)
  have h4 := Int.emod_lt_of_pos (x / 256) hp
  have h5 : x % 256 + 256 * (x / 256 % 256 ^ n) < 256 * 256 ^ n := by omega
  have h6 : x = x % 256 + 256 * (x / 256 % 256 ^ n) + 256 * 256 ^ n * (x / 256 / 256 ^ n) := by
    rw [Int.mul_assoc]; omega
  rw [h6, Int.add_mul_emod_self_left]
  have e1 : (x % 256 + 256 * (x / 256 % 256 ^ n) + 256 * 256 ^ n * (x / 256 / 256 ^ n)) = x := h6.symm
  rw [e1]
  exact Int.emod_eq_of_lt (by omega) h5
/-- The low n bytes of x, read again. -/
theorem bytesVal_layL (n : Nat) : ∀ x : Int, bytesVal (layL x n) = x % 256 ^ n := by
  induction n with
  | zero => intro x; simp [layL_zero, bytesVal]
  | succ n ih =>
    intro x
    have e : layL x (n + 1) = (x % 256) :: layL (x / 256) n := by
      unfold layL
      rw [List.range_succ_eq_map, List.map_cons, List.map_map]
      simp only [Nat.mul_zero, Int.pow_zero, Int.ediv_one]
      congr 1
      apply List.map_congr_left
      intro i _
      simp only [Function.comp]
      have : (2 : Int) ^ (8 * (i + 1)) = 256 * 2 ^ (8 * i) := by
        rw [Nat.mul_add, Int.pow_add, Int.mul_comm]; rfl
      rw [this, Int.ediv_ediv_of_nonneg (by decide)]
    rw [e, bytesVal, ih, Int.pow_succ, Int.mul_comm (256 ^ n) 256]
    exact (emod_mul_aux x n).symm
theorem pow256_le {a b : Nat} (h : a ≤ b) : (256 : Int) ^ a ≤ 256 ^ b := by
  have e := Nat.pow_le_pow_right (n := 256) (by decide) h
  rw [← Int.ofNat_le, Int.natCast_pow, Int.natCast_pow] at e
  exact e
/-- The first n bytes of a string as numbers. -/
def strNums (s : ByteArray) (n : Nat) : List Int := (s.data.toList.take n).map fun b => (b.toNat : Int)
theorem strNums_length (s : ByteArray) (n : Nat) (h : n ≤ s.size) : (strNums s n).length = n := by
  simp [strNums]
  show min n s.size = n
  omega
theorem strNums_range (s : ByteArray) (n : Nat) : ∀ d ∈ strNums s n, 0 ≤ d ∧ d < 256 := by
  intro d hd
  rw [strNums, List.mem_map] at hd
  obtain ⟨b, _, rfl⟩ := hd
  have := b.toNat_lt
  omega
theorem drop_val (s : ByteArray) (n m : Nat) (h : n ≤ s.size) (hm : m < n) :
    bytesVal ((strNums s n).drop m) = (s[m].toNat : Int) + 256 * bytesVal ((strNums s n).drop (m + 1)) := by
  have hl := strNums_length s n h
  rw [List.drop_eq_getElem_cons (by omega), bytesVal]
  congr 1
  simp [strNums]
  rfl
theorem drop_range (s : ByteArray) (n j : Nat) (h : n ≤ s.size) : 0 ≤ bytesVal ((strNums s n).drop j) ∧ bytesVal ((strNums s n).drop j) < 256 ^ (n - j) := by
  have := bytesVal_range ((strNums s n).drop j) fun d hd => strNums_range s n d (List.mem_of_mem_drop hd)
  rwa [List.length_drop, strNums_length s n h] at this
theorem or_bytes (u b : Int) (hu : 0 ≤ u) (hu1 : u < 72057594037927936) (hb : 0 ≤ b) (hb1 : b < 256) : bits .or .u64 (u * 256) b = b + 256 * u := by
  obtain ⟨a, rfl⟩ := Int.eq_ofNat_of_zero_le hu
  obtain ⟨c, rfl⟩ := Int.eq_ofNat_of_zero_le hb
  have e : ((a : Int) * 256) = ((a * 256 : Nat) : Int) := by omega
  rw [e, u64_or_nat _ _ (by omega) (by omega), nat_join 8 (a * 256) c (by omega) (by omega)]
  omega
theorem take_end (u n : Int) (hn : n = 1 ∨ n = 2 ∨ n = 4 ∨ n = 8) (h0 : 0 ≤ u) (h1 : u < 256 ^ n.toNat) :
    wrap64 (IntKind.u64.wrap (u * 2 ^ (64 - 8 * n).toNat)) / 2 ^ (64 - 8 * n).toNat = if 256 ^ n.toNat ≤ 2 * u then u - 256 ^ n.toNat else u := by
  rw [u64_wrap]
  rcases hn with rfl | rfl | rfl | rfl
  all_goals
    simp at h1 ⊢
    unfold wrap64
    split <;> omega
/-- Whether the highest byte has its highest bit. -/
theorem high_bit (l : List Int) (hl : l ≠ []) (h : ∀ d ∈ l, 0 ≤ d ∧ d < 256) : (256 ^ l.length ≤ 2 * bytesVal l) ↔ 128 ≤ l.getLast hl := by
  induction l with
  | nil => exact absurd rfl hl
  | cons d r ih =>
    have hd := h d (by simp)
    by_cases hr : r = []
    · subst hr; simp [bytesVal]; omega
    · have i := ih hr fun x hx => h x (by simp [hx])
      have e : (256 : Int) ^ (d :: r).length = 256 ^ r.length * 256 := by rw [List.length_cons, Int.pow_succ]
      rw [List.getLast_cons hr, ← i, e, bytesVal]
      have hp : (256 : Int) ^ r.length % 2 = 0 := by
        obtain ⟨k, hk⟩ : ∃ k, r.length = k + 1 := ⟨r.length - 1, by have := List.length_pos_iff.mpr hr; omega⟩
        rw [hk, Int.pow_succ]; omega
      omega
theorem tdiv256 (x : Int) (h : x % 256 = 0) : x.tdiv 256 = x / 256 := by
  rw [Int.tdiv_eq_ediv, if_pos (.inr (Int.dvd_of_emod_eq_zero h))]; omega
theorem ref_lay_step (a : Int) (h : I64 a) : wrap64 ((a - a % 256).tdiv 256) = a / 256 := by
  unfold I64 at h
  rw [tdiv256 _ (by omega)]; unfold wrap64; omega
theorem lay_half (x : Int) (k : Nat) : x / 2 ^ (8 * k) / 256 = x / 2 ^ (8 * (k + 1)) := by
  have e : (2 : Int) ^ (8 * (k + 1)) = 2 ^ (8 * k) * 256 := by rw [Nat.mul_add, Int.pow_add]; rfl
  rw [e, Int.ediv_ediv_of_nonneg (Int.le_of_lt (Int.pow_pos (by decide)))]
theorem take_last (s : ByteArray) (m : Nat) (h : m + 1 ≤ s.size) : (256 ^ (m + 1) ≤ 2 * bytesVal (strNums s (m + 1))) ↔ 128 ≤ (s[m].toNat : Int) := by
  have hl := strNums_length s (m + 1) h
  have hne : strNums s (m + 1) ≠ [] := fun e => by rw [e] at hl; simp at hl
  have hb := high_bit (strNums s (m + 1)) hne (strNums_range s (m + 1))
  rw [hl] at hb
  rw [hb, List.getLast_eq_getElem]
  have e : (strNums s (m + 1))[(strNums s (m + 1)).length - 1]'(by omega) = (s[m].toNat : Int) := by
    simp only [hl, Nat.add_sub_cancel]
    simp [strNums]
    rfl
  rw [e]
theorem drop_high (s : ByteArray) (m0 m : Nat) (h : m0 + 1 ≤ s.size) (hm : m ≤ m0) : (256 ^ (m0 + 1 - m) ≤ 2 * bytesVal ((strNums s (m0 + 1)).drop m)) ↔ 128 ≤ (s[m0].toNat : Int) := by
  have hl := strNums_length s (m0 + 1) h
  have hld : ((strNums s (m0 + 1)).drop m).length = m0 + 1 - m := by rw [List.length_drop, hl]
  have hne : (strNums s (m0 + 1)).drop m ≠ [] := fun e => by rw [e] at hld; simp at hld; omega
  have hb := high_bit ((strNums s (m0 + 1)).drop m) hne fun d hd => strNums_range s (m0 + 1) d (List.mem_of_mem_drop hd)
  rw [hld] at hb
  rw [hb, List.getLast_eq_getElem, List.getElem_drop]
  have e : (strNums s (m0 + 1))[m + (((strNums s (m0 + 1)).drop m).length - 1)]'(by rw [hld, hl]; omega) = (s[m0].toNat : Int) := by
    have e2 : m + (((strNums s (m0 + 1)).drop m).length - 1) = m0 := by rw [hld]; omega
    simp only [e2]
    simp [strNums]
    rfl
  rw [e]
theorem take_neg (s : ByteArray) (m : Nat) (h : m + 1 ≤ s.size) (hc : (128 : Int) ≤ (s[m].toNat : Int)) : bytesVal (strNums s (m + 1)) - 256 ^ (m + 1) = takeZ (strNums s (m + 1)) := by
  have ht := take_last s m h
  unfold takeZ
  rw [strNums_length _ _ h, if_pos (ht.2 hc)]
theorem take_pos (s : ByteArray) (m : Nat) (h : m + 1 ≤ s.size) (hc : (s[m].toNat : Int) < 128) : bytesVal (strNums s (m + 1)) = takeZ (strNums s (m + 1)) := by
  have ht := take_last s m h
  unfold takeZ
  rw [strNums_length _ _ h, if_neg (fun e => by have := ht.1 e; omega)]
theorem take_lay8 (v : Int) (h : I64 v) : takeZ (layL v 8) = v := by
  unfold I64 at h
  unfold takeZ
  rw [layL_length, bytesVal_layL]
  have e : (256 : Int) ^ 8 = 18446744073709551616 := rfl
  rw [e]
  split <;> omega
theorem take_lay1 (v : Int) (h0 : -128 ≤ v) (h1 : v < 128) : takeZ (layL v 1) = v := by
  unfold takeZ
  rw [layL_length, bytesVal_layL]
  have e : (256 : Int) ^ 1 = 256 := rfl
  rw [e]
  split <;> omega
theorem strNums_of (l : List Int) (t : ByteArray) (hl : ∀ d ∈ l, 0 ≤ d ∧ d < 256) : strNums (strOfNums l ++ t) l.length = l := by
  unfold strNums
  have e : (strOfNums l ++ t).data.toList = (l.map fun n => UInt8.ofNat n.toNat) ++ t.data.toList := by
    rw [ByteArray.data_append, Array.toList_append, strOfNums_data]
  rw [e, List.take_left' (by simp), List.map_map]
  conv => rhs; rw [← List.map_id l]
  apply List.map_congr_left
  intro d hd
  obtain ⟨a, b⟩ := hl d hd
  simp only [Function.comp, id]
  rw [UInt8.toNat_ofNat_of_lt' (by show _ < 256; omega)]
  omega
theorem strNums_self (l : List Int) (hl : ∀ d ∈ l, 0 ≤ d ∧ d < 256) : strNums (strOfNums l) l.length = l := by
  have := strNums_of l ByteArray.empty hl
  rwa [ByteArray.append_empty] at this
end Go.Proofs.Ytojkeahffabifaa
namespace Go.Proofs.Ytojkeahffabifaa
open Go.RowKit
theorem and63_u64 (n : Int) : bits .and .u64 (IntKind.u64.wrap n) 63 = n % 64 := by
  have h := u64_wrap_range n
  rw [u64_and _ _ h.1 h.2 (by decide) (by decide)]
  have e : (IntKind.u64.wrap n).toNat &&& (63 : Int).toNat = (IntKind.u64.wrap n).toNat % 64 := nat_mask6 _
  rw [e, u64_wrap]
  omega
def shlZ (x n : Int) : Int := wrap64 (x * 2 ^ (n % 64).toNat)
def shrZ (x n : Int) : Int := x / 2 ^ (n % 64).toNat
def ushrZ (x n : Int) : Int := wrap64 (IntKind.u64.wrap x / 2 ^ (n % 64).toNat)
theorem shl_step (x : Int) (j : Nat) : wrap64 (wrap64 (x * 2 ^ j) + wrap64 (x * 2 ^ j)) = wrap64 (x * 2 ^ (j + 1)) := by
  have e : x * 2 ^ (j + 1) = x * 2 ^ j * 2 := by rw [Int.pow_succ, Int.mul_assoc]
  rw [e]; unfold wrap64; omega
theorem I64.half {x : Int} (h : I64 x) : I64 (x / 2) := by unfold I64 at *; omega
/-- The word x turned to the left by j places, j at most 64. -/
def turnN (x j : Nat) : Nat := x % 2 ^ (64 - j) * 2 ^ j + x / 2 ^ (64 - j)
theorem turn_parts (j : Nat) (hj : j < 64) : ∃ P Q : Nat, 2 ^ (64 - j) = 2 * P ∧ 2 ^ (64 - (j + 1)) = P ∧ 2 ^ j = Q ∧ 2 ^ (j + 1) = 2 * Q ∧ P * Q = 9223372036854775808 ∧ 0 < P ∧ 0 < Q := by
  refine ⟨2 ^ (63 - j), 2 ^ j, ?_, ?_, rfl, ?_, ?_, Nat.two_pow_pos _, Nat.two_pow_pos _⟩
  · rw [← Nat.pow_succ']; congr 1; omega
  · congr 1; omega
  · rw [Nat.pow_succ']
  · rw [← Nat.pow_add, show 63 - j + j = 63 by omega]
theorem turnN_step (x j : Nat) (hx : x < 18446744073709551616) (hj : j < 64) :
    turnN x (j + 1) = ((turnN x j + turnN x j) % 18446744073709551616 + turnN x j / 9223372036854775808) % 18446744073709551616 ∧ turnN x j < 18446744073709551616 := by
  obtain ⟨P, Q, h1, h2, h3, h4, h5, hP, hQ⟩ := turn_parts j hj
  unfold turnN
  rw [h1, h2, h3, h4]
  have dx : x = (2 * P) * (x / (2 * P)) + x % (2 * P) := (Nat.div_add_mod x (2 * P)).symm
  have lr : x % (2 * P) < 2 * P := Nat.mod_lt _ (by omega)
  generalize x / (2 * P) = q at *
  generalize hr : x % (2 * P) = r at *
  have lq : q < Q := by
    rcases Nat.lt_or_ge q Q with h | h
    · exact h
    · have : (2 * P) * Q ≤ (2 * P) * q := Nat.mul_le_mul_left _ h
      have e : (2 * P) * Q = 2 * (P * Q) := by rw [Nat.mul_assoc]
      omega
  obtain ⟨t, s, ht, hs, rfl⟩ : ∃ t s, t ≤ 1 ∧ s < P ∧ r = t * P + s := by
    rcases Nat.lt_or_ge r P with h | h
    · exact ⟨0, r, by omega, h, by omega⟩
    · exact ⟨1, r - P, by omega, by omega, by omega⟩
  have xd : x / P = 2 * q + t := by
    rw [dx, show 2 * P * q + (t * P + s) = s + P * (2 * q + t) by rw [Nat.mul_add, Nat.mul_comm t P, Nat.mul_comm 2 P, Nat.mul_assoc]; omega, Nat.add_mul_div_left _ _ hP, Nat.div_eq_of_lt hs]
    omega
  have xm : x % P = s := by
    rw [dx, show 2 * P * q + (t * P + s) = s + P * (2 * q + t) by rw [Nat.mul_add, Nat.mul_comm t P, Nat.mul_comm 2 P, Nat.mul_assoc]; omega, Nat.add_mul_mod_self_left, Nat.mod_eq_of_lt hs]
  rw [xd, xm]
  have e1 : (t * P + s) * Q = t * 9223372036854775808 + s * Q := by rw [Nat.add_mul, Nat.mul_assoc, h5]
  have e2 : s * (2 * Q) = 2 * (s * Q) := by rw [Nat.mul_left_comm]
  have e3 : s * Q + Q ≤ 9223372036854775808 := by
    have : (s + 1) * Q ≤ P * Q := Nat.mul_le_mul_right _ hs
    rw [h5, Nat.add_mul] at this
    omega
  rw [e1, e2]
  generalize s * Q = z at *
  clear dx lr hr xd xm e1 e2 h1 h2 h3 h4 h5 hP hs hx
  have y1 : (t * 9223372036854775808 + z + q) / 9223372036854775808 = t := by
    have : t * 9223372036854775808 + z + q = z + q + 9223372036854775808 * t := by omega
    rw [this, Nat.add_mul_div_left _ _ (by decide), Nat.div_eq_of_lt (by omega)]
    omega
  have y2 : (t * 9223372036854775808 + z + q + (t * 9223372036854775808 + z + q)) % 18446744073709551616 = 2 * z + 2 * q := by
    have : t * 9223372036854775808 + z + q + (t * 9223372036854775808 + z + q) = 2 * z + 2 * q + 18446744073709551616 * t := by omega
    rw [this, Nat.add_mul_mod_self_left, Nat.mod_eq_of_lt (by omega)]
  rw [y1, y2, Nat.mod_eq_of_lt (by omega)]
  refine ⟨by omega, ?_⟩
  have : t * 9223372036854775808 ≤ 1 * 9223372036854775808 := Nat.mul_le_mul_right _ ht
  omega
theorem turnN_zero (x : Nat) (hx : x < 18446744073709551616) : turnN x 0 = x := by
  unfold turnN
  simp
  omega
def turnZ (x n : Int) : Int := (turnN x.toNat (n % 64).toNat : Nat)
theorem turn_prog (x k : Int) (h0 : 0 ≤ x) (h1 : x < 18446744073709551616) (k0 : 0 ≤ k) (k1 : k < 64) :
    bits .or .u64 (IntKind.u64.wrap (x * 2 ^ k.toNat)) (x / 2 ^ (64 - k).toNat) = (turnN x.toNat k.toNat : Nat) := by
  obtain ⟨a, rfl⟩ := Int.eq_ofNat_of_zero_le h0
  obtain ⟨j, rfl⟩ := Int.eq_ofNat_of_zero_le k0
  have ha : a < 18446744073709551616 := by omega
  have hj : j < 64 := by omega
  obtain ⟨P, Q, e1, e2, e3, e4, e5, hP, hQ⟩ := turn_parts j hj
  have hk : (64 - (j : Int)).toNat = 64 - j := by omega
  have c1 : IntKind.u64.wrap ((a : Int) * 2 ^ (j : Int).toNat) = ((a * 2 ^ j % 18446744073709551616 : Nat) : Int) := by
    rw [u64_wrap, Int.toNat_natCast, Int.natCast_emod, Int.natCast_mul, Int.natCast_pow]; rfl
  have c2 : (a : Int) / 2 ^ (64 - (j : Int)).toNat = ((a / 2 ^ (64 - j) : Nat) : Int) := by
    rw [hk, Int.natCast_ediv, Int.natCast_pow]; rfl
  have m : a * 2 ^ j % 18446744073709551616 = a % 2 ^ (64 - j) * 2 ^ j := by
    have : 18446744073709551616 = 2 ^ (64 - j) * 2 ^ j := by rw [← Nat.pow_add, show 64 - j + j = 64 by omega]
    rw [this, Nat.mul_mod_mul_right]
  have b1 : a * 2 ^ j % 18446744073709551616 < 18446744073709551616 := Nat.mod_lt _ (by decide)
  have b2 : a / 2 ^ (64 - j) < 2 ^ j := by
    rw [Nat.div_lt_iff_lt_mul (Nat.two_pow_pos _), ← Nat.pow_add, show j + (64 - j) = 64 by omega]
    omega
  have b3 : 2 ^ j ≤ 18446744073709551616 := by
    have := Nat.pow_le_pow_right (n := 2) (by decide) (show j ≤ 64 by omega)
    omega
  rw [c1, c2, u64_or_nat _ _ b1 (by omega), nat_join j _ _ (by rw [m]; exact Nat.mul_mod_left _ _) b2, m, Int.toNat_natCast, Int.toNat_natCast]
  rfl
theorem turn_loop (x j : Nat) (hx : x < 18446744073709551616) (hj : j < 64) :
    IntKind.u64.wrap (IntKind.u64.wrap ((turnN x j : Int) + turnN x j) + (turnN x j : Int) / 9223372036854775808) = (turnN x (j + 1) : Nat) ∧ turnN x j < 18446744073709551616 := by
  obtain ⟨h1, h2⟩ := turnN_step x j hx hj
  refine ⟨?_, h2⟩
  rw [u64_wrap, u64_wrap, h1]
  omega
theorem turnN_back (x j : Nat) (hx : x < 18446744073709551616) (h0 : 0 < j) (hj : j < 64) : turnN (turnN x j) (64 - j) = x := by
  obtain ⟨P, Q, h1, h2, h3, h4, h5, hP, hQ⟩ := turn_parts j hj
  have e : 64 - (64 - j) = j := by omega
  unfold turnN
  rw [e, h1, h3]
  have dx : x = (2 * P) * (x / (2 * P)) + x % (2 * P) := (Nat.div_add_mod x (2 * P)).symm
  have lr : x % (2 * P) < 2 * P := Nat.mod_lt _ (by omega)
  have lq : x / (2 * P) < Q := by
    rw [Nat.div_lt_iff_lt_mul (by omega)]
    have : Q * (2 * P) = 2 * (P * Q) := by rw [Nat.mul_comm Q, Nat.mul_assoc]
    omega
  generalize x / (2 * P) = q at *
  generalize x % (2 * P) = r at *
  have a1 : (r * Q + q) % Q = q := by rw [Nat.mul_comm, Nat.mul_add_mod, Nat.mod_eq_of_lt lq]
  have a2 : (r * Q + q) / Q = r := by rw [Nat.add_comm, Nat.add_mul_div_right _ _ hQ, Nat.div_eq_of_lt lq]; omega
  rw [a1, a2, dx, Nat.mul_comm q]
theorem turnN_lt (x j : Nat) (hx : x < 18446744073709551616) (hj : j < 64) : turnN x j < 18446744073709551616 := (turnN_step x j hx hj).2
theorem turnZ_range (x n : Int) (h0 : 0 ≤ x) (h1 : x < 18446744073709551616) : 0 ≤ turnZ x n ∧ turnZ x n < 18446744073709551616 := by
  have := turnN_lt x.toNat (n % 64).toNat (by omega) (by omega)
  unfold turnZ; omega
theorem turn_back (x k : Int) (h0 : 0 ≤ x) (h1 : x < 18446744073709551616) : turnZ (turnZ x k) (-k) = x := by
  unfold turnZ
  rw [Int.toNat_natCast]
  by_cases hz : k % 64 = 0
  · have e1 : (k % 64).toNat = 0 := by omega
    have e2 : (-k % 64).toNat = 0 := by omega
    rw [e1, e2, turnN_zero x.toNat (by omega), turnN_zero x.toNat (by omega)]; omega
  · have e2 : (-k % 64).toNat = 64 - (k % 64).toNat := by omega
    rw [e2, turnN_back _ _ (by omega) (by omega) (by omega)]; omega
/-! ### smaller numbers -/
def narrowZ (x k : Int) : Int :=
  if k = 0 then (x + 128) % 256 - 128 else if k = 1 then (x + 32768) % 65536 - 32768 else if k = 2 then (x + 2147483648) % 4294967296 - 2147483648
  else if k = 3 then x % 256 else if k = 4 then x % 65536 else if k = 5 then x % 4294967296 else 0
def narrowE (k : Int) : Int := if 0 ≤ k ∧ k ≤ 5 then 0 else 1
theorem tmod_neg (x m : Int) (hm : 1 ≤ m) (h : x.tmod m < 0) : x.tmod m + m = x % m := by
  have h3 := Int.emod_nonneg x (b := m) (by omega)
  have h4 := Int.emod_lt_of_pos x (b := m) (by omega)
  rw [Int.tmod_eq_emod] at h ⊢
  split at h <;> rename_i hc
  · omega
  · rw [if_neg hc]
    have e : (m.natAbs : Int) = m := by omega
    omega
theorem tmod_pos (x m : Int) (hm : 1 ≤ m) (h : 0 ≤ x.tmod m) : x.tmod m = x % m := by
  have h3 := Int.emod_nonneg x (b := m) (by omega)
  have h4 := Int.emod_lt_of_pos x (b := m) (by omega)
  rw [Int.tmod_eq_emod] at h ⊢
  split at h <;> rename_i hc
  · rw [if_pos hc]; omega
  · have e : (m.natAbs : Int) = m := by omega
    omega
theorem tmod_lo (x m : Int) (hm : 1 ≤ m) : -m < x.tmod m ∧ x.tmod m < m := by
  have h3 := Int.emod_nonneg x (b := m) (by omega)
  have h4 := Int.emod_lt_of_pos x (b := m) (by omega)
  have e : (m.natAbs : Int) = m := by omega
  rw [Int.tmod_eq_emod]
  split
  · omega
  · rename_i hc
    have : x % m ≠ 0 := fun h => hc (.inr (Int.dvd_of_emod_eq_zero h))
    omega
end Go.Proofs.Ytojkeahffabifaa
