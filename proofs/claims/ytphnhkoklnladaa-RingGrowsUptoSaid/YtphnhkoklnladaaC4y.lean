/- Layer 4: two equal lists of entries. -/
import Derived.Test.YtphnhkoklnladaaC4x
import Derived.Test.YtphnhkoklnladaaC3i
import Derived.ChangeKeysEq
namespace Go.Proofs.Ytphnhkoklnladaa
open Go.RowKit Go.Shelf
set_option linter.unusedVariables false
theorem infoWd : (Try.prog.info? 35).map (fun i => (i.zero, i.size, i.bytes)) = some (some (.int .u64 0), 1, 8) := by kernel_rfl
theorem cellsWd : Try.prog.cellsOf 35 = 1 := by kernel_rfl
theorem ent_eq_nil (xs : Array Value) (w : World) : (Op.eqItems 9998 35 1 xs xs []).run Try.prog w = .ok true w := by simp [Op.eqItems]
theorem part_wd (xs : Array Value) (k : Nat) (n : Int) (w : World) (h : xs[k]? = some (.int .u64 n)) : (part 35 xs k).run Try.prog w = .ok (.int .u64 n) w := by
  simp [part, go_sem, h]
theorem ent_eq_step {xs : Array Value} (i : Nat) (is : List Nat) (a : Int) (w : World) (hx : xs[i]? = some (.int .u64 a))
    (h : (Op.eqItems 9998 35 1 xs xs is).run Try.prog w = .ok true w) : (Op.eqItems 9998 35 1 xs xs (i :: is)).run Try.prog w = .ok true w := by
  have he : (Op.equalIn 9998 35 (.int .u64 a) (.int .u64 a)).run Try.prog w = .ok (a == a) w := run_equalIn_int w 9997 _ .u64 .u64 a a Try.underlying35
  simp only [Op.eqItems, Nat.mul_one, Sem.run_bind, part_wd xs i a w hx, Result.andThen_ok, he]
  simpa using h
theorem eqSig4 (a0 a1 a2 a3 a4 a5 a6 a7 : Int) (w : World) : (Op.equalIn 9999 37 (.agg #[.int .u64 a0, .int .u64 a1, .int .u64 a2, .int .u64 a3, .int .u64 a4, .int .u64 a5, .int .u64 a6, .int .u64 a7]) (.agg #[.int .u64 a0, .int .u64 a1, .int .u64 a2, .int .u64 a3, .int .u64 a4, .int .u64 a5, .int .u64 a6, .int .u64 a7])).run Try.prog w = .ok true w := by
  obtain ⟨i0, hi, hz0, hz1, hz2⟩ := info_parts infoWd
  rw [run_equalIn_array w 9998 _ _ Try.underlying37 hi, cellsWd]
  have hr : List.range 8 = [0, 1, 2, 3, 4, 5, 6, 7] := rfl
  rw [hr]
  exact (ent_eq_step 0 _ a0 w rfl (ent_eq_step 1 _ a1 w rfl (ent_eq_step 2 _ a2 w rfl (ent_eq_step 3 _ a3 w rfl (ent_eq_step 4 _ a4 w rfl (ent_eq_step 5 _ a5 w rfl (ent_eq_step 6 _ a6 w rfl (ent_eq_step 7 _ a7 w rfl (ent_eq_nil _ _)))))))))
theorem partSig4 (s m a0 a1 a2 a3 a4 a5 a6 a7 : Int) (w : World) : (part 37 #[.int .i64 s, .int .i64 m, .int .u64 a0, .int .u64 a1, .int .u64 a2, .int .u64 a3, .int .u64 a4, .int .u64 a5, .int .u64 a6, .int .u64 a7] 2).run Try.prog w = .ok (.agg #[.int .u64 a0, .int .u64 a1, .int .u64 a2, .int .u64 a3, .int .u64 a4, .int .u64 a5, .int .u64 a6, .int .u64 a7]) w := by
  obtain ⟨i0, hi, hz0, hz1, hz2⟩ := info_parts infoWd
  simp [part, isAgg, run_underlying Try.underlying37]
theorem eqEnt (s m a0 a1 a2 a3 a4 a5 a6 a7 : Int) (w : World) : (Op.equalIn 10000 39 (.agg #[.int .i64 s, .int .i64 m, .int .u64 a0, .int .u64 a1, .int .u64 a2, .int .u64 a3, .int .u64 a4, .int .u64 a5, .int .u64 a6, .int .u64 a7]) (.agg #[.int .i64 s, .int .i64 m, .int .u64 a0, .int .u64 a1, .int .u64 a2, .int .u64 a3, .int .u64 a4, .int .u64 a5, .int .u64 a6, .int .u64 a7])).run Try.prog w = .ok true w := by
  rw [run_equalIn_struct w 9999 39 _ _ (by kernel_rfl) (by kernel_rfl)]
  have hk : (Try.prog.fieldsOf 39).toList.map (fun f => ((f.name != "_", Try.prog.plainKey f.type, Try.prog.underlying f.type), f.offset)) = [((true, true, some (.int .i64)), 0), ((true, true, some (.int .i64)), 1), ((true, false, Try.prog.underlying 37), 2)] := by kernel_rfl
  have hk0 : (Try.prog.fieldsOf 39).toList.map (fun f => f.type) = [2, 3, 37] := by kernel_rfl
  obtain ⟨f0, r0, hf, e0, hk1⟩ := List.map_eq_cons_iff.1 hk
  obtain ⟨f1, r1, rfl, e1, hk2⟩ := List.map_eq_cons_iff.1 hk1
  obtain ⟨f2, r2, rfl, e2, hk3⟩ := List.map_eq_cons_iff.1 hk2
  obtain rfl := List.map_eq_nil_iff.1 hk3
  rw [hf] at hk0
  simp only [List.map_cons, List.map_nil, List.cons.injEq] at hk0
  have ht := hk0.2.2.1
  rw [Prod.mk.injEq] at e0 e1 e2
  rw [hf]
  have hn2 : f2.name ≠ "_" := by
    have h := e2.1
    rw [Prod.mk.injEq] at h
    simpa using h.1
  refine eqF3_int (a := s) e0.1 (by rw [e0.2]; rfl) (eqF3_int (a := m) e1.1 (by rw [e1.2]; rfl) (eqF3_step (a := .agg #[.int .u64 a0, .int .u64 a1, .int .u64 a2, .int .u64 a3, .int .u64 a4, .int .u64 a5, .int .u64 a6, .int .u64 a7]) hn2 ?_ ?_ ?_ (eqF3_nil _ _ _ _)))
  · rw [ht, e2.2]; exact partSig4 ..
  · rw [ht, e2.2]; exact partSig4 ..
  · rw [ht]; exact eqSig4 ..
/-- Entries one behind the other. -/
def entsG (mk : Int → Int) (fs : Int → Nat → Int) (xs : List Int) : List Value := xs.flatMap fun x => entC x (mk x) (fs x)
theorem entsG_len (mk : Int → Int) (fs : Int → Nat → Int) (xs : List Int) : (entsG mk fs xs).length = xs.length * 10 := by
  induction xs with
  | nil => rfl
  | cons x xs ih =>
    have h : entsG mk fs (x :: xs) = entC x (mk x) (fs x) ++ entsG mk fs xs := rfl
    rw [h, List.length_append, ih, List.length_cons]; simp [entC]; omega
theorem entsG_get (mk : Int → Int) (fs : Int → Nat → Int) (xs : List Int) : ∀ (k : Nat) (x : Int), xs[k]? = some x → ∀ j, j < 10 → (entsG mk fs xs)[k * 10 + j]? = (entC x (mk x) (fs x))[j]? := by
  induction xs with
  | nil => intro k x h; simp at h
  | cons y ys ih =>
    intro k x h j hj
    have he : entsG mk fs (y :: ys) = entC y (mk y) (fs y) ++ entsG mk fs ys := rfl
    have hl : (entC y (mk y) (fs y)).length = 10 := rfl
    rw [he]
    cases k with
    | zero =>
      simp at h; subst h
      rw [Nat.zero_mul, Nat.zero_add, List.getElem?_append_left (by omega)]
    | succ k =>
      rw [List.getElem?_append_right (by omega), hl, show (k + 1) * 10 + j - 10 = k * 10 + j by omega]
      exact ih k x (by simpa using h) j hj
/-- The cells of entry k. -/
theorem ents_at {w : World} {B T n : Nat} {v : Value} {mk : Int → Int} {fs : Int → Nat → Int} {xs : List Int} (h : w.ownsRow B T 10 v n (entsG mk fs xs)) (hn : xs.length = n) {k : Nat} {x : Int} (hx : xs[k]? = some x) :
    ∃ g c, v = .slice (some ⟨g, 0, none⟩) n c ∧ w.cell? ⟨g, k * 10, none⟩ = some (Value.int .i64 x) ∧ w.cell? ⟨g, k * 10 + 1, none⟩ = some (Value.int .i64 (mk x)) ∧ w.cell? ⟨g, k * 10 + 2, none⟩ = some (Value.int .u64 (fs x 0)) ∧ w.cell? ⟨g, k * 10 + 3, none⟩ = some (Value.int .u64 (fs x 1)) ∧ w.cell? ⟨g, k * 10 + 4, none⟩ = some (Value.int .u64 (fs x 2)) ∧ w.cell? ⟨g, k * 10 + 5, none⟩ = some (Value.int .u64 (fs x 3)) ∧ w.cell? ⟨g, k * 10 + 6, none⟩ = some (Value.int .u64 (fs x 4)) ∧ w.cell? ⟨g, k * 10 + 7, none⟩ = some (Value.int .u64 (fs x 5)) ∧ w.cell? ⟨g, k * 10 + 8, none⟩ = some (Value.int .u64 (fs x 6)) ∧ w.cell? ⟨g, k * 10 + 9, none⟩ = some (Value.int .u64 (fs x 7)) ∧ ∀ o, w.frozen? ⟨g, o, none⟩ = false := by
  have hk : k < n := by rw [← hn]; exact (List.getElem?_eq_some_iff.1 hx).1
  obtain ⟨g, c, hv, _, _, hc, hf, _⟩ := own_parts h (by omega)
  have hg : ∀ j, j < 10 → w.cell? ⟨g, k * 10 + j, none⟩ = (entC x (mk x) (fs x))[j]? := fun j hj => (hc _ (by omega)).trans (entsG_get mk fs xs k x hx j hj)
  exact ⟨g, c, hv, hg 0 (by omega), hg 1 (by omega), hg 2 (by omega), hg 3 (by omega), hg 4 (by omega), hg 5 (by omega), hg 6 (by omega), hg 7 (by omega), hg 8 (by omega), hg 9 (by omega), hf⟩
set_option maxHeartbeats 1000000 in
theorem ents4_any (v u : Value) (n B1 B2 : Nat) (mk : Int → Int) (fs : Int → Nat → Int) (xs : List Int) (hn : xs.length = n) (hn16 : n ≤ 16) (w : World) (hx : w.ownsRow B1 39 10 v n (entsG mk fs xs)) (hy : w.ownsRow B2 39 10 u n (entsG mk fs xs)) :
    Calls Try.prog 30 #[v, u] w fun e w' => e = .returned (.bool true) ∧ Below w.heap.size w w' := by
  obtain ⟨a, ca, rfl⟩ := ownAt_form hx
  obtain ⟨b, cb, rfl⟩ := ownAt_form hy
  have HX := Lib.hid hx
  have HY := Lib.hid hy
  have HN := Lib.hid hn
  clear hx hy hn
  go_enter Try.func30, Try.ntmps30
  go_wp2_with fail
  go_loopw [5] (fun i wr => ∃ k : Nat, k ≤ n ∧ i = .int .i64 k ∧ Hid (Below w.heap.size w wr)) (fun i _ => n - (intOf i).toNat)
  case atStart => exact ⟨0, by omega, rfl, Below.refl _ _⟩
  case round =>
    obtain ⟨k, hk, rfl, HB⟩ := hrel
    by_cases hlt : k < n
    · obtain ⟨x, hxk⟩ : ∃ x, xs[k]? = some x := ⟨_, List.getElem?_eq_getElem (by rw [HN.out]; exact hlt)⟩
      obtain ⟨g, c, he, c0, c1, c2, c3, c4, c5, c6, c7, c8, c9, cz⟩ := ents_at (own_calm HX.out HB.out) HN.out hxk
      obtain ⟨rfl, rfl⟩ : a = some ⟨g, 0, none⟩ ∧ ca = c := by simp at he; exact ⟨he.1, he.2⟩
      obtain ⟨g2, c', he2, d0, d1, d2, d3, d4, d5, d6, d7, d8, d9, dz⟩ := ents_at (own_calm HY.out HB.out) HN.out hxk
      obtain ⟨rfl, rfl⟩ : b = some ⟨g2, 0, none⟩ ∧ cb = c' := by simp at he2; exact ⟨he2.1, he2.2⟩
      have hE := eqEnt x (mk x) (fs x 0) (fs x 1) (fs x 2) (fs x 3) (fs x 4) (fs x 5) (fs x 6) (fs x 7)
      clear he he2 hxk cz dz
      go_wp2_with fail
      go_quiet (fail)
      go_wp2_with fail
      go_roundw
      case rel => exact ⟨k + 1, by omega, by go_num, below_drewN HB.out _⟩
      case measure => simp [intOf]; omega
    · obtain rfl : k = n := by omega
      go_wp2_with fail
      go_ret
      exact ⟨rfl, HB.out⟩
end Go.Proofs.Ytphnhkoklnladaa
