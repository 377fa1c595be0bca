/- Contracts of layer 2: Of, by the program and by the reference. -/
import Derived.Test.YtlmnljijpgpmiaaC2g
import Derived.StillTailTactics
namespace Go.Proofs.Ytlmnljijpgpmiaa
open Go.RowKit
set_option linter.unusedVariables false
theorem heap_setCell_ne (w : World) (a : Addr) (v : Value) (k : Nat) (h : k ≠ a.block) : (w.setCell a v).heap[k]? = w.heap[k]? := by
  simp only [World.setCell, Array.getElem?_modify]
  rw [if_neg (by omega)]
theorem heap_setCell_eq (w : World) (b i : Nat) (v : Value) (cs : Array Value) (T : TypeId) (fr : Nat × Nat) (h : w.heap[b]? = some (.cells cs T fr)) : (w.setCell ⟨b, i, none⟩ v).heap[b]? = some (.cells (cs.setIfInBounds i v) T fr) := by
  simp [World.setCell, Array.getElem?_modify, h]
/-- A whole signature is stored, cell by cell. -/
theorem set8 {w : World} {b : Nat} {x0 x1 x2 x3 x4 x5 x6 x7 : Value} {T : TypeId} (h : w.heap[b]? = some (.cells #[x0, x1, x2, x3, x4, x5, x6, x7] T)) (v0 v1 v2 v3 v4 v5 v6 v7 : Value) :
    ((((((((w.setCell ⟨b, 0, none⟩ v0).setCell ⟨b, 1, none⟩ v1).setCell ⟨b, 2, none⟩ v2).setCell ⟨b, 3, none⟩ v3).setCell ⟨b, 4, none⟩ v4).setCell ⟨b, 5, none⟩ v5).setCell ⟨b, 6, none⟩ v6).setCell ⟨b, 7, none⟩ v7).heap[b]? = some (.cells #[v0, v1, v2, v3, v4, v5, v6, v7] T) := by
  have h0 : (w.setCell ⟨b, 0, none⟩ v0).heap[b]? = some (.cells #[v0, x1, x2, x3, x4, x5, x6, x7] T) := (heap_setCell_eq _ b 0 v0 _ T _ h).trans (by simp)
  have h1 : ((w.setCell ⟨b, 0, none⟩ v0).setCell ⟨b, 1, none⟩ v1).heap[b]? = some (.cells #[v0, v1, x2, x3, x4, x5, x6, x7] T) := (heap_setCell_eq _ b 1 v1 _ T _ h0).trans (by simp)
  have h2 : (((w.setCell ⟨b, 0, none⟩ v0).setCell ⟨b, 1, none⟩ v1).setCell ⟨b, 2, none⟩ v2).heap[b]? = some (.cells #[v0, v1, v2, x3, x4, x5, x6, x7] T) := (heap_setCell_eq _ b 2 v2 _ T _ h1).trans (by simp)
  have h3 : ((((w.setCell ⟨b, 0, none⟩ v0).setCell ⟨b, 1, none⟩ v1).setCell ⟨b, 2, none⟩ v2).setCell ⟨b, 3, none⟩ v3).heap[b]? = some (.cells #[v0, v1, v2, v3, x4, x5, x6, x7] T) := (heap_setCell_eq _ b 3 v3 _ T _ h2).trans (by simp)
  have h4 : (((((w.setCell ⟨b, 0, none⟩ v0).setCell ⟨b, 1, none⟩ v1).setCell ⟨b, 2, none⟩ v2).setCell ⟨b, 3, none⟩ v3).setCell ⟨b, 4, none⟩ v4).heap[b]? = some (.cells #[v0, v1, v2, v3, v4, x5, x6, x7] T) := (heap_setCell_eq _ b 4 v4 _ T _ h3).trans (by simp)
  have h5 : ((((((w.setCell ⟨b, 0, none⟩ v0).setCell ⟨b, 1, none⟩ v1).setCell ⟨b, 2, none⟩ v2).setCell ⟨b, 3, none⟩ v3).setCell ⟨b, 4, none⟩ v4).setCell ⟨b, 5, none⟩ v5).heap[b]? = some (.cells #[v0, v1, v2, v3, v4, v5, x6, x7] T) := (heap_setCell_eq _ b 5 v5 _ T _ h4).trans (by simp)
  have h6 : (((((((w.setCell ⟨b, 0, none⟩ v0).setCell ⟨b, 1, none⟩ v1).setCell ⟨b, 2, none⟩ v2).setCell ⟨b, 3, none⟩ v3).setCell ⟨b, 4, none⟩ v4).setCell ⟨b, 5, none⟩ v5).setCell ⟨b, 6, none⟩ v6).heap[b]? = some (.cells #[v0, v1, v2, v3, v4, v5, v6, x7] T) := (heap_setCell_eq _ b 6 v6 _ T _ h5).trans (by simp)
  have h7 : ((((((((w.setCell ⟨b, 0, none⟩ v0).setCell ⟨b, 1, none⟩ v1).setCell ⟨b, 2, none⟩ v2).setCell ⟨b, 3, none⟩ v3).setCell ⟨b, 4, none⟩ v4).setCell ⟨b, 5, none⟩ v5).setCell ⟨b, 6, none⟩ v6).setCell ⟨b, 7, none⟩ v7).heap[b]? = some (.cells #[v0, v1, v2, v3, v4, v5, v6, v7] T) := (heap_setCell_eq _ b 7 v7 _ T _ h6).trans (by simp)
  exact h7
theorem set8_ne (w : World) (b k : Nat) (hk : k ≠ b) (v0 v1 v2 v3 v4 v5 v6 v7 : Value) : ((((((((w.setCell ⟨b, 0, none⟩ v0).setCell ⟨b, 1, none⟩ v1).setCell ⟨b, 2, none⟩ v2).setCell ⟨b, 3, none⟩ v3).setCell ⟨b, 4, none⟩ v4).setCell ⟨b, 5, none⟩ v5).setCell ⟨b, 6, none⟩ v6).setCell ⟨b, 7, none⟩ v7).heap[k]? = w.heap[k]? := by
  rw [heap_setCell_ne _ _ _ _ hk, heap_setCell_ne _ _ _ _ hk, heap_setCell_ne _ _ _ _ hk, heap_setCell_ne _ _ _ _ hk, heap_setCell_ne _ _ _ _ hk, heap_setCell_ne _ _ _ _ hk, heap_setCell_ne _ _ _ _ hk, heap_setCell_ne _ _ _ _ hk]
theorem set8_below {B : Nat} {w0 w : World} (h : Below B w0 w) (b : Nat) (hb : B ≤ b) (v0 v1 v2 v3 v4 v5 v6 v7 : Value) : Below B w0 ((((((((w.setCell ⟨b, 0, none⟩ v0).setCell ⟨b, 1, none⟩ v1).setCell ⟨b, 2, none⟩ v2).setCell ⟨b, 3, none⟩ v3).setCell ⟨b, 4, none⟩ v4).setCell ⟨b, 5, none⟩ v5).setCell ⟨b, 6, none⟩ v6).setCell ⟨b, 7, none⟩ v7) :=
  (((((((h.setCell hb _).setCell hb _).setCell hb _).setCell hb _).setCell hb _).setCell hb _).setCell hb _).setCell hb _
theorem set8_size (w : World) (b : Nat) (v0 v1 v2 v3 v4 v5 v6 v7 : Value) : ((((((((w.setCell ⟨b, 0, none⟩ v0).setCell ⟨b, 1, none⟩ v1).setCell ⟨b, 2, none⟩ v2).setCell ⟨b, 3, none⟩ v3).setCell ⟨b, 4, none⟩ v4).setCell ⟨b, 5, none⟩ v5).setCell ⟨b, 6, none⟩ v6).setCell ⟨b, 7, none⟩ v7).heap.size = w.heap.size := by simp [World.setCell]
/-- An argument that is a slice of ints. -/
def IntsAt (w : World) (a : Option Addr) (len : Nat) (zs : List Int) : Prop :=
  zs.length = len ∧ (len = 0 ∨ ∃ b off, a = some ⟨b, off, none⟩ ∧ b < w.heap.size ∧ ∀ i, i < len → w.cell? ⟨b, off + i, none⟩ = some (.int .i64 (zs.getD i 0)))
noncomputable def ofS (zs : List Int) : Nat → Int := zs.foldl withS noS
theorem foldl_wds : ∀ (zs : List Int) (s : Nat → Int), Wds s → Wds (zs.foldl withS s)
  | [], s, h => h
  | z :: r, s, h => foldl_wds r _ (withS_wds h z)
theorem ofS_wds (zs : List Int) : Wds (ofS zs) := foldl_wds zs noS noS_wds
theorem ofS_succ (zs : List Int) (k : Nat) (h : k < zs.length) : ofS (zs.take (k + 1)) = withS (ofS (zs.take k)) (zs.getD k 0) := by
  unfold ofS
  rw [List.take_succ_eq_append_getElem h, List.foldl_append]
  simp [List.getD, h]
end Go.Proofs.Ytlmnljijpgpmiaa
