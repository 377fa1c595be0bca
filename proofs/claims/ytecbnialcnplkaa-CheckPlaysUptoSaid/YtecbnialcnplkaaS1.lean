/- Plain arithmetic for layers 1 and 4: no program in sight. -/
import Derived.WalkKit
import Derived.Laws.BitsAllLaws
import Derived.WalkSmall
namespace Go.Proofs.Ytecbnialcnplkaa
open Go.RowKit

theorem ofInt64_toNat (x : Int) : (BitVec.ofInt 64 x).toNat = (x % 18446744073709551616).toNat := by
  simp [BitVec.toNat_ofInt]

theorem u64_wrap (x : Int) : IntKind.u64.wrap x = x % 18446744073709551616 := IntKind.wrap_u64 x
theorem u64_wrap_range (x : Int) : 0 ≤ IntKind.u64.wrap x ∧ IntKind.u64.wrap x < 18446744073709551616 := by
  rw [u64_wrap]; omega
theorem u64_wrap_id (x : Int) (h0 : 0 ≤ x) (h1 : x < 18446744073709551616) : IntKind.u64.wrap x = x := by
  rw [u64_wrap]; omega
theorem wrap64_id (x : Int) (h0 : -9223372036854775808 ≤ x) (h1 : x ≤ 9223372036854775807) : wrap64 x = x := by
  unfold wrap64; omega
theorem wrap64_range (x : Int) : -9223372036854775808 ≤ wrap64 x ∧ wrap64 x ≤ 9223372036854775807 := by
  unfold wrap64; omega

/-- A number that an int64 holds. -/
def I64 (x : Int) : Prop := -9223372036854775808 ≤ x ∧ x ≤ 9223372036854775807
/-- A number that a uint64 holds. -/
def U64 (x : Int) : Prop := 0 ≤ x ∧ x < 18446744073709551616
theorem I64.of_wf {x : Int} (h : (Lit.int .i64 x).wf = true) : I64 x := by
  simp [Lit.wf, IntKind.min, IntKind.max, IntKind.bits, IntKind.signed] at h; unfold I64; omega
theorem U64.of_wf {x : Int} (h : (Lit.int .u64 x).wf = true) : U64 x := by
  simp [Lit.wf, IntKind.min, IntKind.max, IntKind.bits, IntKind.signed] at h; unfold U64; omega
theorem I64.wrap {x : Int} (h : I64 x) : wrap64 x = x := wrap64_id x h.1 h.2
theorem I64.mk {x : Int} (h : -9223372036854775808 ≤ x ∧ x ≤ 9223372036854775807) : I64 x := h
theorem U64.mk {x : Int} (h : 0 ≤ x ∧ x < 18446744073709551616) : U64 x := h
theorem I64_wrap64 (x : Int) : I64 (wrap64 x) := wrap64_range x
theorem U64_wrap (x : Int) : U64 (IntKind.u64.wrap x) := u64_wrap_range x

theorem and1_i64 (x : Int) : bits .and .i64 x 1 = x % 2 := by
  unfold bits
  rw [IntKind.wrap_i64]
  have : (BitVec.ofInt IntKind.i64.bits x &&& BitVec.ofInt IntKind.i64.bits 1).toNat = (x % 18446744073709551616).toNat % 2 := by
    show (BitVec.ofInt 64 x &&& BitVec.ofInt 64 1).toNat = _
    rw [BitVec.toNat_and, ofInt64_toNat, ofInt64_toNat]
    exact Nat.and_one_is_mod _
  simp only [this]
  omega

theorem or1_i64 (x : Int) : bits .or .i64 (wrap64 (x * 2)) 1 = wrap64 (x * 2) + 1 := by
  unfold bits
  rw [IntKind.wrap_i64]
  have : (BitVec.ofInt IntKind.i64.bits (wrap64 (x * 2)) ||| BitVec.ofInt IntKind.i64.bits 1).toNat = (wrap64 (x * 2) % 18446744073709551616).toNat + 1 := by
    show (BitVec.ofInt 64 (wrap64 (x * 2)) ||| BitVec.ofInt 64 1).toNat = _
    rw [BitVec.toNat_or, ofInt64_toNat, ofInt64_toNat]
    exact nat_join 1 _ 1 (by unfold wrap64; omega) (by decide)
  simp only [this]
  unfold wrap64
  omega

/-! ### xor with what is shifted down by 33 places -/
def xsh (x : Int) : Int := bits .xor .u64 x (x / 8589934592)
theorem xsh_nat (a : Nat) (h : a < 18446744073709551616) : xsh (a : Int) = ((a ^^^ a / 8589934592 : Nat) : Int) := by
  unfold xsh
  have e : (a : Int) / 8589934592 = ((a / 8589934592 : Nat) : Int) := by omega
  rw [e]
  exact u64_xor_nat a _ h (by omega)
theorem nat_xsh_lt (a : Nat) (h : a < 18446744073709551616) : a ^^^ a / 8589934592 < 18446744073709551616 :=
  Nat.xor_lt_two_pow (n := 64) h (by omega)
theorem xsh_range (x : Int) (h0 : 0 ≤ x) (h1 : x < 18446744073709551616) : 0 ≤ xsh x ∧ xsh x < 18446744073709551616 := by
  obtain ⟨a, rfl⟩ := Int.eq_ofNat_of_zero_le h0
  rw [xsh_nat a (by omega)]
  have := nat_xsh_lt a (by omega)
  omega
theorem nat_xsh_twice (a : Nat) (h : a < 18446744073709551616) : (a ^^^ a / 8589934592) ^^^ (a ^^^ a / 8589934592) / 8589934592 = a := by
  have e : ∀ n : Nat, n / 8589934592 = n >>> 33 := fun n => by rw [Nat.shiftRight_eq_div_pow]
  rw [e, e, Nat.shiftRight_xor_distrib, ← Nat.shiftRight_add]
  have z : a >>> (33 + 33) = 0 := by rw [Nat.shiftRight_eq_div_pow]; exact Nat.div_eq_of_lt (by omega)
  rw [z, Nat.xor_zero, Nat.xor_assoc, Nat.xor_self, Nat.xor_zero]
theorem xsh_twice (x : Int) (h0 : 0 ≤ x) (h1 : x < 18446744073709551616) : xsh (xsh x) = x := by
  obtain ⟨a, rfl⟩ := Int.eq_ofNat_of_zero_le h0
  have h : a < 18446744073709551616 := by omega
  rw [xsh_nat a h, xsh_nat _ (nat_xsh_lt a h), nat_xsh_twice a h]

/-- Mix of a word, written out. -/
def mixR (x : Int) : Int :=
  xsh (IntKind.u64.wrap (xsh (IntKind.u64.wrap (xsh x * 18397679294719823053)) * 14181476777654086739))
theorem mix_ex : ∃ f : Int → Int, ∀ x, f x = mixR x := ⟨mixR, fun _ => rfl⟩
/-- Mix of a word: a name that nothing unfolds by itself. -/
noncomputable def mixZ : Int → Int := Classical.choose mix_ex
theorem mixZ_def (x : Int) : mixZ x = mixR x := Classical.choose_spec mix_ex x
theorem mixZ_range (x : Int) : 0 ≤ mixZ x ∧ mixZ x < 18446744073709551616 := by
  rw [mixZ_def]
  unfold mixR
  exact xsh_range _ (u64_wrap_range _).1 (u64_wrap_range _).2

theorem mul_back (a c d : Int) (h : c * d % 18446744073709551616 = 1) (h0 : 0 ≤ a) (h1 : a < 18446744073709551616) : IntKind.u64.wrap (IntKind.u64.wrap (a * c) * d) = a := by
  rw [u64_wrap, u64_wrap, Int.mul_emod, Int.emod_emod, ← Int.mul_emod, Int.mul_assoc, Int.mul_emod, h]
  omega
theorem xsh_inj {x y : Int} (hx0 : 0 ≤ x) (hx1 : x < 18446744073709551616) (hy0 : 0 ≤ y) (hy1 : y < 18446744073709551616) (h : xsh x = xsh y) : x = y := by
  rw [← xsh_twice x hx0 hx1, ← xsh_twice y hy0 hy1, h]
theorem mul_inj {a b c d : Int} (h : c * d % 18446744073709551616 = 1) (ha0 : 0 ≤ a) (ha1 : a < 18446744073709551616) (hb0 : 0 ≤ b) (hb1 : b < 18446744073709551616)
    (e : IntKind.u64.wrap (a * c) = IntKind.u64.wrap (b * c)) : a = b := by
  rw [← mul_back a c d h ha0 ha1, ← mul_back b c d h hb0 hb1, e]
theorem mixZ_inj {x y : Int} (hx0 : 0 ≤ x) (hx1 : x < 18446744073709551616) (hy0 : 0 ≤ y) (hy1 : y < 18446744073709551616) (h : mixZ x = mixZ y) : x = y := by
  rw [mixZ_def, mixZ_def] at h
  unfold mixR at h
  have h2 := xsh_inj (u64_wrap_range _).1 (u64_wrap_range _).2 (u64_wrap_range _).1 (u64_wrap_range _).2 h
  have r1 := xsh_range (IntKind.u64.wrap (xsh x * 18397679294719823053)) (u64_wrap_range _).1 (u64_wrap_range _).2
  have r2 := xsh_range (IntKind.u64.wrap (xsh y * 18397679294719823053)) (u64_wrap_range _).1 (u64_wrap_range _).2
  have h3 := mul_inj (d := 11291846944257947611) (by decide) r1.1 r1.2 r2.1 r2.2 h2
  have h4 := xsh_inj (u64_wrap_range _).1 (u64_wrap_range _).2 (u64_wrap_range _).1 (u64_wrap_range _).2 h3
  have r3 := xsh_range x hx0 hx1
  have r4 := xsh_range y hy0 hy1
  have h5 := mul_inj (d := 5725274745694666757) (by decide) r3.1 r3.2 r4.1 r4.2 h4
  exact xsh_inj hx0 hx1 hy0 hy1 h5

/-- The bit of a cell. -/
noncomputable def sigHashZ (c : Int) : Int := mixZ (IntKind.u64.wrap c) / 36028797018963968
theorem sigHashZ_range (c : Int) : 0 ≤ sigHashZ c ∧ sigHashZ c < 512 := by
  have := mixZ_range (IntKind.u64.wrap c)
  unfold sigHashZ
  omega

/-! ### products, bit by bit -/
theorem times_step_odd (out x y p : Int) (hy : y % 2 = 1) (h : (out + x * y) % 18446744073709551616 = p) :
    (IntKind.u64.wrap (out + x) + IntKind.u64.wrap (x + x) * (y / 2)) % 18446744073709551616 = p := by
  obtain ⟨q, rfl⟩ : ∃ q, y = 2 * q + 1 := ⟨y / 2, by omega⟩
  have e : (2 * q + 1) / 2 = q := by omega
  rw [e, u64_wrap, u64_wrap, Int.add_emod, Int.mul_emod, Int.emod_emod, Int.emod_emod, ← Int.mul_emod, ← Int.add_emod, ← h]
  congr 1
  rw [Int.mul_add, Int.add_mul, Int.mul_one, Int.two_mul q, Int.mul_add]
  omega
theorem times_step_even (out x y p : Int) (hy : y % 2 = 0) (h : (out + x * y) % 18446744073709551616 = p) :
    (out + IntKind.u64.wrap (x + x) * (y / 2)) % 18446744073709551616 = p := by
  obtain ⟨q, rfl⟩ : ∃ q, y = 2 * q := ⟨y / 2, by omega⟩
  have e : (2 * q) / 2 = q := by omega
  rw [e, u64_wrap, Int.add_emod, Int.mul_emod, Int.emod_emod, ← Int.mul_emod, ← Int.add_emod, ← h]
  congr 1
  rw [Int.add_mul, Int.two_mul q, Int.mul_add]
theorem pow_half (x : Int) (k : Nat) : x / 2 ^ k / 2 = x / 2 ^ (k + 1) := by
  rw [Int.ediv_ediv_of_nonneg (Int.le_of_lt (Int.pow_pos (by decide))), Int.pow_succ]

/-! ### heads and slots -/
/-- A head word. -/
def headZ (s : Int) (d : Bool) : Int := wrap64 (s * 2) + (if d then 1 else 0)
theorem headZ_range (s : Int) (d : Bool) : I64 (headZ s d) := by
  unfold headZ I64 wrap64; split <;> omega
def overB (h s : Int) : Bool := decide (s < 1) || decide (s < h / 2) || (h / 2 == s && h % 2 == 1)
def laidB (h s : Int) : Bool := h / 2 == s
def slotZ (x s : Int) : Int := if 1 ≤ s ∧ s ≤ 16 then x % s else 0
def freeB (h s n : Int) : Bool := decide (1 ≤ n ∧ n ≤ 16) && (decide (s ≤ n) || overB h (s - n))
theorem tmod2 (x : Int) : x.tmod 2 = x % 2 - (if 0 ≤ x ∨ x % 2 = 0 then 0 else 2) := by
  rw [Int.tmod_eq_emod]
  split <;> split <;> rename_i h1 h2 <;> omega
theorem tdiv2 (x : Int) : x.tdiv 2 = x / 2 + (if 0 ≤ x ∨ x % 2 = 0 then 0 else 1) := by
  rw [Int.tdiv_eq_ediv]
  have e : (2 : Int).sign = 1 := rfl
  rw [e]
  split <;> split <;> rename_i h1 h2 <;> omega
theorem ref_stamp_neg (x : Int) (hx : I64 x) (h : x.tmod 2 < 0) : wrap64 ((wrap64 (x - 1)).tdiv 2) = x / 2 := by
  unfold I64 at hx
  rw [tmod2] at h
  split at h
  · omega
  · rw [wrap64_id (x - 1) (by omega) (by omega), tdiv2]
    unfold wrap64; split <;> omega
theorem ref_stamp_pos (x : Int) (hx : I64 x) (h : 0 ≤ x.tmod 2) : wrap64 ((wrap64 (x - x.tmod 2)).tdiv 2) = x / 2 := by
  unfold I64 at hx
  rw [tmod2] at h ⊢
  split at h <;> rename_i hc
  · rw [if_pos hc, wrap64_id (x - (x % 2 - 0)) (by omega) (by omega), tdiv2]
    unfold wrap64; split <;> omega
  · omega
theorem slotZ_range (x s : Int) : 0 ≤ slotZ x s ∧ slotZ x s < 16 := by
  unfold slotZ; split
  · rename_i h
    have h1 := Int.emod_nonneg x (b := s) (by omega)
    have h2 := Int.emod_lt_of_pos x (b := s) (by omega)
    omega
  · omega
theorem slotZ_lt (x s : Int) (h1 : 1 ≤ s) (h2 : s ≤ 16) : 0 ≤ slotZ x s ∧ slotZ x s < s := by
  unfold slotZ; rw [if_pos ⟨h1, h2⟩]
  exact ⟨Int.emod_nonneg x (b := s) (by omega), Int.emod_lt_of_pos x (b := s) (by omega)⟩
theorem slot_neg (x s : Int) (h1 : 1 ≤ s) (h2 : s ≤ 16) (h : x.tmod s < 0) : wrap64 (x.tmod s + s) = slotZ x s := by
  unfold slotZ; rw [if_pos ⟨h1, h2⟩]
  have h3 := Int.emod_nonneg x (b := s) (by omega)
  have h4 := Int.emod_lt_of_pos x (b := s) (by omega)
  rw [Int.tmod_eq_emod] at h ⊢
  split at h <;> rename_i hc
  · omega
  · rw [if_neg hc]
    have e : (s.natAbs : Int) = s := by omega
    unfold wrap64; omega
theorem slot_pos (x s : Int) (h1 : 1 ≤ s) (h2 : s ≤ 16) (h : 0 ≤ x.tmod s) : x.tmod s = slotZ x s := by
  unfold slotZ; rw [if_pos ⟨h1, h2⟩]
  have h3 := Int.emod_nonneg x (b := s) (by omega)
  have h4 := Int.emod_lt_of_pos x (b := s) (by omega)
  rw [Int.tmod_eq_emod] at h ⊢
  split at h <;> rename_i hc
  · rw [if_pos hc]; omega
  · have e : (s.natAbs : Int) = s := by omega
    omega
theorem slot_out (x s : Int) (h : ¬ (1 ≤ s ∧ s ≤ 16)) : slotZ x s = 0 := by unfold slotZ; rw [if_neg h]
end Go.Proofs.Ytecbnialcnplkaa
