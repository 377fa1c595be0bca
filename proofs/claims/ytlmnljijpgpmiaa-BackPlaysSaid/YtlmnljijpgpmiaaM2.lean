/- The builtin copy between two slices of the call's own, of elements of any number of cells. Of whatever program. -/
import Derived.Test.YtlmnljijpgpmiaaM1
import Derived.Laws.CopyOwn
namespace Go.Proofs.Ytlmnljijpgpmiaa
open Go.RowKit
set_option linter.unusedVariables false
theorem addr_add (g j : Nat) : (⟨g, 0, none⟩ : Addr).add j = ⟨g, j, none⟩ := by unfold Addr.add; split <;> simp_all
theorem own_src {w : World} {B e sz n : Nat} {a : Addr} {c : Nat} {xs : List Value} (h : w.ownsRow B e sz (.slice (some a) n c) n xs) : ∀ j v, xs[j]? = some v → w.cell? (a.add j) = some v := by
  intro j v hv
  rcases h.2 with ⟨h', _⟩ | ⟨g, cap, cur, h', _⟩
  · simp at h'
  · simp at h'
    obtain ⟨rfl, rfl⟩ := h'
    exact h.cells rfl j v hv
theorem run_copy_wide {P : Program} (w : World) (dT sT ty e : TypeId) (i : TypeInfo) (sz : Nat) (hu : P.underlying dT = some (.slice e)) (hi : P.info? e = some i) (hsz : i.size = sz)
    {Bd Bs n : Nat} {vd vs : Value} {zs xs : List Value} (hd : w.ownsRow Bd e sz vd n zs) (hs : w.ownsRow Bs e sz vs n xs) (h1 : ∀ v ∈ xs, v.oneCell' = true) :
    ∃ w', (Builtin.copy_ #[dT, sT] ty #[vd, vs]).run P w = .ok (goInt n) w' ∧ w'.ownsRow Bd e sz vd n xs ∧ w.grownBy w' vd.ownBlock := by
  subst hsz
  have hgr : w.grownBy w vd.ownBlock := ⟨rfl, rfl, rfl, Nat.le_refl _, fun _ _ _ => rfl⟩
  rcases hd.2 with ⟨rfl, rfl⟩ | ⟨g, cap, cur, rfl, hB, hg, hnc, hcm, hcs, htake⟩
  · have hx0 : xs = [] := List.eq_nil_of_length_eq_zero (by have := hs.1; omega)
    subst hx0
    refine ⟨w, ?_, World.ownsRow_nil _ _ _ _, hgr⟩
    rcases hs.2 with ⟨rfl, _⟩ | ⟨g2, cap2, cur2, rfl, _⟩
    · simp [Builtin.copy_, run_underlying hu, Builtin.lenOf, Builtin.firstCells, sizeOf, typeInfo, hi]
    · have hl0 := run_loadCells_list (P := P) w ⟨g2, 0, none⟩ [] (fun j v h => by simp at h)
      simp only [List.length_nil] at hl0
      simp [Builtin.copy_, run_underlying hu, Builtin.lenOf, Builtin.firstCells, sizeOf, typeInfo, hi, hl0]
  · rcases hs.2 with ⟨rfl, rfl⟩ | ⟨g2, cap2, cur2, rfl, hB2, hg2, hnc2, hcm2, hcs2, htake2⟩
    · have hx0 : xs = [] := List.eq_nil_of_length_eq_zero (by have := hs.1; omega)
      subst hx0
      have hz0 : zs = [] := List.eq_nil_of_length_eq_zero (by have := hd.1; omega)
      subst hz0
      refine ⟨w, ?_, hd, hgr⟩
      simp [Builtin.copy_, run_underlying hu, Builtin.lenOf, Builtin.firstCells, sizeOf, typeInfo, hi, storeCells]
    · have hl : xs.length = n * i.size := hs.1
      have hf := run_firstCells_some (P := P) w i.size n ⟨g2, 0, none⟩ n cap2 xs hl (own_src hs)
      have hfit : n * i.size ≤ cur.size := by rw [hcs]; exact Nat.mul_le_mul_right _ hnc
      have hst := run_storeCells_at P g 0 e xs 0 cur w hg (by omega) h1
      refine ⟨w.setRow g (cur.toList.take (0 + 0) ++ xs ++ cur.toList.drop (0 + 0 + xs.length)).toArray, ?_, ⟨hl, .inr ⟨g, cap, _, rfl, hB, setRow_heap w g cur _ e _ hg, hnc, hcm, ?_, ?_⟩⟩, ⟨rfl, rfl, rfl, by simp [World.setRow], fun k _ hk => setRow_other w g k _ (fun e => hk (by simp [Value.ownBlock, e]))⟩⟩
      · simp [Builtin.copy_, run_underlying hu, Builtin.lenOf, sizeOf, typeInfo, hi, hf, hst]
      · simp only [List.size_toArray, List.length_append, List.length_take, List.length_drop, Array.length_toList]
        omega
      · simp only [Nat.zero_add, Nat.add_zero, List.take_zero, List.nil_append]
        rw [← hl]
        exact List.take_left
theorem wpList_copy_wide {P : Program} {w : World} {ops : Array Oper} {rest : List Oper} {o : Oper} {a : Act} {Q : Exit → Act → World → Prop} (hgd : o.guard = none) (d s : Operand) (dT sT : TypeId)
    (ho : o.op = .call { callee := .builtin .copy, args := #[d, s], argTypes := #[dT, sT] }) (e : TypeId) (i : TypeInfo) (sz : Nat) (hu : P.underlying dT = some (.slice e)) (hi : P.info? e = some i) (hsz : i.size = sz)
    (Bd Bs n : Nat) (vd vs : Value) (zs xs : List Value) (hd : a.eval d = vd) (hs : a.eval s = vs) (hdo : w.ownsRow Bd e sz vd n zs) (hso : w.ownsRow Bs e sz vs n xs) (h1 : ∀ v ∈ xs, v.oneCell' = true)
    (h : ∀ w', w'.ownsRow Bd e sz vd n xs → w.grownBy w' vd.ownBlock → wpList P ops Q rest (a.put o.dst (goInt n)) w') : wpList P ops Q (o :: rest) a w := by
  refine wpList_plain hgd fun K hK => ?_
  obtain ⟨w', hrun, r1, r2⟩ := run_copy_wide (P := P) w dT sT o.type e i sz hu hi hsz hdo hso h1
  unfold Oper.wp
  simp [execOp, ho, resolve, invoke, builtin, hd, hs, hrun, Result.andThen]
  exact hK _ _ (h w' r1 r2)
theorem rowCells_one (rows : List (Int × Int)) : ∀ v ∈ rowCells rows, v.oneCell' = true := by
  intro v hv
  simp only [rowCells, List.mem_flatMap] at hv
  obtain ⟨r, _, h⟩ := hv
  simp at h
  rcases h with rfl | rfl <;> rfl
end Go.Proofs.Ytlmnljijpgpmiaa
