/- Signatures held against each other. -/
import Derived.Test.YtojkeahffabifaaC2
import Derived.ChangeKeysEq
namespace Go.Proofs.Ytojkeahffabifaa
open Go.RowKit
theorem infoU64 : (Try.prog.info? 40).map (fun i => (i.zero, i.size, i.bytes)) = some (some (.int .u64 0), 1, 8) := by kernel_rfl
theorem cellsU64 : Try.prog.cellsOf 40 = 1 := by kernel_rfl
theorem sig_eq_nil (xs ys : Array Value) (w : World) : (Op.eqItems 9999 40 1 xs ys []).run Try.prog w = .ok true w := by simp [Op.eqItems]
theorem part_u64 (xs : Array Value) (k : Nat) (n : Int) (w : World) (h : xs[k]? = some (.int .u64 n)) : (part 40 xs k).run Try.prog w = .ok (.int .u64 n) w := by
  simp [part, go_sem, h]
theorem sig_eq_step (xs ys : Array Value) (i : Nat) (is : List Nat) (a b : Int) (r : Bool) (w : World) (hx : xs[i]? = some (.int .u64 a)) (hy : ys[i]? = some (.int .u64 b))
    (h : (Op.eqItems 9999 40 1 xs ys is).run Try.prog w = .ok r w) : (Op.eqItems 9999 40 1 xs ys (i :: is)).run Try.prog w = .ok (a == b && r) w := by
  have he : (Op.equalIn 9999 40 (.int .u64 a) (.int .u64 b)).run Try.prog w = .ok (a == b) w := run_equalIn_int w 9998 _ .u64 .u64 a b Try.underlying40
  simp only [Op.eqItems, Nat.mul_one, Sem.run_bind, part_u64 xs i a w hx, part_u64 ys i b w hy, Result.andThen_ok, he]
  cases (a == b)
  · simp
  · simpa using h
def sigEq (a b : Nat → Int) : Bool := a 0 == b 0 && (a 1 == b 1 && (a 2 == b 2 && (a 3 == b 3 && (a 4 == b 4 && (a 5 == b 5 && (a 6 == b 6 && (a 7 == b 7)))))))
theorem run_sig_eq (a0 a1 a2 a3 a4 a5 a6 a7 b0 b1 b2 b3 b4 b5 b6 b7 : Int) (w : World) : (Op.equalIn 10000 42 (.agg #[.int .u64 a0, .int .u64 a1, .int .u64 a2, .int .u64 a3, .int .u64 a4, .int .u64 a5, .int .u64 a6, .int .u64 a7]) (.agg #[.int .u64 b0, .int .u64 b1, .int .u64 b2, .int .u64 b3, .int .u64 b4, .int .u64 b5, .int .u64 b6, .int .u64 b7])).run Try.prog w = .ok (a0 == b0 && (a1 == b1 && (a2 == b2 && (a3 == b3 && (a4 == b4 && (a5 == b5 && (a6 == b6 && (a7 == b7)))))))) w := by
  obtain ⟨i0, hi, hz0, hz1, hz2⟩ := info_parts infoU64
  rw [run_equalIn_array w 9999 _ _ Try.underlying42 hi, cellsU64]
  have hr : List.range 8 = [0, 1, 2, 3, 4, 5, 6, 7] := rfl
  rw [hr]
  have h := (sig_eq_step (#[.int .u64 a0, .int .u64 a1, .int .u64 a2, .int .u64 a3, .int .u64 a4, .int .u64 a5, .int .u64 a6, .int .u64 a7]) (#[.int .u64 b0, .int .u64 b1, .int .u64 b2, .int .u64 b3, .int .u64 b4, .int .u64 b5, .int .u64 b6, .int .u64 b7]) 0 _ a0 b0 _ w rfl rfl (sig_eq_step (#[.int .u64 a0, .int .u64 a1, .int .u64 a2, .int .u64 a3, .int .u64 a4, .int .u64 a5, .int .u64 a6, .int .u64 a7]) (#[.int .u64 b0, .int .u64 b1, .int .u64 b2, .int .u64 b3, .int .u64 b4, .int .u64 b5, .int .u64 b6, .int .u64 b7]) 1 _ a1 b1 _ w rfl rfl (sig_eq_step (#[.int .u64 a0, .int .u64 a1, .int .u64 a2, .int .u64 a3, .int .u64 a4, .int .u64 a5, .int .u64 a6, .int .u64 a7]) (#[.int .u64 b0, .int .u64 b1, .int .u64 b2, .int .u64 b3, .int .u64 b4, .int .u64 b5, .int .u64 b6, .int .u64 b7]) 2 _ a2 b2 _ w rfl rfl (sig_eq_step (#[.int .u64 a0, .int .u64 a1, .int .u64 a2, .int .u64 a3, .int .u64 a4, .int .u64 a5, .int .u64 a6, .int .u64 a7]) (#[.int .u64 b0, .int .u64 b1, .int .u64 b2, .int .u64 b3, .int .u64 b4, .int .u64 b5, .int .u64 b6, .int .u64 b7]) 3 _ a3 b3 _ w rfl rfl (sig_eq_step (#[.int .u64 a0, .int .u64 a1, .int .u64 a2, .int .u64 a3, .int .u64 a4, .int .u64 a5, .int .u64 a6, .int .u64 a7]) (#[.int .u64 b0, .int .u64 b1, .int .u64 b2, .int .u64 b3, .int .u64 b4, .int .u64 b5, .int .u64 b6, .int .u64 b7]) 4 _ a4 b4 _ w rfl rfl (sig_eq_step (#[.int .u64 a0, .int .u64 a1, .int .u64 a2, .int .u64 a3, .int .u64 a4, .int .u64 a5, .int .u64 a6, .int .u64 a7]) (#[.int .u64 b0, .int .u64 b1, .int .u64 b2, .int .u64 b3, .int .u64 b4, .int .u64 b5, .int .u64 b6, .int .u64 b7]) 5 _ a5 b5 _ w rfl rfl (sig_eq_step (#[.int .u64 a0, .int .u64 a1, .int .u64 a2, .int .u64 a3, .int .u64 a4, .int .u64 a5, .int .u64 a6, .int .u64 a7]) (#[.int .u64 b0, .int .u64 b1, .int .u64 b2, .int .u64 b3, .int .u64 b4, .int .u64 b5, .int .u64 b6, .int .u64 b7]) 6 _ a6 b6 _ w rfl rfl (sig_eq_step (#[.int .u64 a0, .int .u64 a1, .int .u64 a2, .int .u64 a3, .int .u64 a4, .int .u64 a5, .int .u64 a6, .int .u64 a7]) (#[.int .u64 b0, .int .u64 b1, .int .u64 b2, .int .u64 b3, .int .u64 b4, .int .u64 b5, .int .u64 b6, .int .u64 b7]) 7 _ a7 b7 _ w rfl rfl (sig_eq_nil (#[.int .u64 a0, .int .u64 a1, .int .u64 a2, .int .u64 a3, .int .u64 a4, .int .u64 a5, .int .u64 a6, .int .u64 a7]) (#[.int .u64 b0, .int .u64 b1, .int .u64 b2, .int .u64 b3, .int .u64 b4, .int .u64 b5, .int .u64 b6, .int .u64 b7]) w)))))))))
  rw [h, Bool.and_true]
theorem sigEq_iff (a b : Nat → Int) : sigEq a b = true ↔ ∀ i, i < 8 → a i = b i := by
  unfold sigEq
  simp only [Bool.and_eq_true, beq_iff_eq]
  constructor
  · rintro ⟨h0, h1, h2, h3, h4, h5, h6, h7⟩ i hi
    match i, hi with
    | 0, _ => exact h0
    | 1, _ => exact h1
    | 2, _ => exact h2
    | 3, _ => exact h3
    | 4, _ => exact h4
    | 5, _ => exact h5
    | 6, _ => exact h6
    | 7, _ => exact h7
  · intro h
    exact ⟨h 0 (by omega), h 1 (by omega), h 2 (by omega), h 3 (by omega), h 4 (by omega), h 5 (by omega), h 6 (by omega), h 7 (by omega)⟩
end Go.Proofs.Ytojkeahffabifaa
