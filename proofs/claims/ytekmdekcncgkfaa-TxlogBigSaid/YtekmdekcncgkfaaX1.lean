/- Structs of numbers held against each other. -/
import Derived.Test.YtekmdekcncgkfaaC5c
import Derived.ChangeKeysEq
namespace Go.Proofs.Ytekmdekcncgkfaa
open Go.RowKit
theorem eqF_nil (d : Nat) (xs ys : Array Value) (w : World) : (Op.eqFields d xs ys []).run Try.prog w = .ok true w := by simp [Op.eqFields]
theorem eqF_step {d : Nat} {xs ys : Array Value} {f : Field} {fs : List Field} {k : IntKind} {a b : Int} {r : Bool} {w : World} (hn : f.name ≠ "_") (hp : Try.prog.plainKey f.type = true) (hu : Try.prog.underlying f.type = some (.int k))
    (hx : xs[f.offset]? = some (.int k a)) (hy : ys[f.offset]? = some (.int k b)) (h : (Op.eqFields (d + 1) xs ys fs).run Try.prog w = .ok r w) : (Op.eqFields (d + 1) xs ys (f :: fs)).run Try.prog w = .ok (a == b && r) w := by
  have he : (Op.equalIn (d + 1) f.type (.int k a) (.int k b)).run Try.prog w = .ok (a == b) w := run_equalIn_int w d _ k k a b hu
  simp only [Op.eqFields]
  rw [if_pos (by simpa using hn)]
  simp only [Sem.run_bind, run_part_plain w hp hx, run_part_plain w hp hy, Result.andThen_ok, he]
  cases (a == b)
  · simp
  · simpa using h
theorem eqW (x1 x2 y1 y2 : Int) (w : World) : (Op.equalIn 10000 50 (.agg #[.int .i64 x1, .int .i64 x2]) (.agg #[.int .i64 y1, .int .i64 y2])).run Try.prog w = .ok (x1 == y1 && x2 == y2) w := by
  rw [run_equalIn_struct w 9999 50 _ _ (by kernel_rfl) (by kernel_rfl)]
  have hk : (Try.prog.fieldsOf 50).toList.map (fun f => (f.name != "_", Try.prog.plainKey f.type, Try.prog.underlying f.type, f.offset)) = [(true, true, some (.int .i64), 0), (true, true, some (.int .i64), 1)] := by kernel_rfl
  obtain ⟨f0, r0, hf, e0, hk1⟩ := List.map_eq_cons_iff.1 hk
  obtain ⟨f1, r1, rfl, e1, hk2⟩ := List.map_eq_cons_iff.1 hk1
  obtain rfl := List.map_eq_nil_iff.1 hk2
  simp only [Prod.mk.injEq, bne_iff_ne] at e0 e1
  obtain ⟨n0, p0, u0, o0⟩ := e0
  obtain ⟨n1, p1, u1, o1⟩ := e1
  rw [hf]
  have h := eqF_step (d := 9998) (xs := #[.int .i64 x1, .int .i64 x2]) (ys := #[.int .i64 y1, .int .i64 y2]) (f := f0) (fs := [f1]) (k := .i64) (w := w) n0 p0 u0 (by rw [o0]; rfl) (by rw [o0]; rfl)
    (eqF_step (f := f1) n1 p1 u1 (by rw [o1]; rfl) (by rw [o1]; rfl) (eqF_nil _ _ _ w))
  rw [h, Bool.and_true]
end Go.Proofs.Ytekmdekcncgkfaa
