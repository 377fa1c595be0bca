/- Layer 4: an entry's cells. -/
import Derived.Test.YtphnhkoklnladaaC4s
namespace Go.Proofs.Ytphnhkoklnladaa
open Go.RowKit Go.Shelf
set_option linter.unusedVariables false
theorem infoEnt : (Try.prog.info? 39).map (fun i => (i.zero, i.size, i.bytes)) = some (some (.agg #[.int .i64 0, .int .i64 0, .int .u64 0, .int .u64 0, .int .u64 0, .int .u64 0, .int .u64 0, .int .u64 0, .int .u64 0, .int .u64 0]), 10, 80) := by kernel_rfl
/-- An entry's cells. -/
def entC (s mark : Int) (f : Nat → Int) : List Value := [.int .i64 s, .int .i64 mark, .int .u64 (f 0), .int .u64 (f 1), .int .u64 (f 2), .int .u64 (f 3), .int .u64 (f 4), .int .u64 (f 5), .int .u64 (f 6), .int .u64 (f 7)]
def ldR (l : List Acc) (ring : Nat) (s : Int) : Bool := laidB (wordOf l 2 (slotZ s ring) 0) s
def sgR (l : List Acc) (ring : Nat) (s : Int) (j : Nat) : Int := IntKind.u64.wrap (wordOf l 3 (slotZ s ring) j)
def mkR (l : List Acc) (ring : Nat) (s : Int) : Int := if ovR l ring s then 3 else if ldR l ring s then 2 else 1
def entR (l : List Acc) (ring : Nat) (s : Int) : List Value := entC s (mkR l ring s) (fun j => if ldR l ring s then sgR l ring s j else 0)
def entsR (l : List Acc) (ring : Nat) (xs : List Int) : List Value := xs.flatMap (entR l ring)
theorem entsR_snoc (l : List Acc) (ring : Nat) (xs : List Int) (x : Int) : entsR l ring (xs ++ [x]) = entsR l ring xs ++ entR l ring x := by
  unfold entsR; rw [List.flatMap_append]; simp
theorem entC_one (s m : Int) (f : Nat → Int) : ∀ u ∈ entC s m f, u.oneCell' = true := by
  intro u hu
  simp [entC] at hu
  rcases hu with rfl | rfl | rfl | rfl | rfl | rfl | rfl | rfl | rfl | rfl <;> rfl
theorem ten_at (w : World) (s m : Int) (f : Nat → Int) (T : TypeId) (b : Nat) (hb : b = w.heap.size) : ∀ j u, (entC s m f)[j]? = some u → (w.alloc (.cells #[.int .i64 s, .int .i64 m, .int .u64 (f 0), .int .u64 (f 1), .int .u64 (f 2), .int .u64 (f 3), .int .u64 (f 4), .int .u64 (f 5), .int .u64 (f 6), .int .u64 (f 7)] T)).cell? ((⟨b, 0, none⟩ : Addr).add j) = some u := by
  subst hb
  intro j u h
  unfold entC at h
  match j, h with
  | 0, h => simp at h; subst h; simp [Addr.add]
  | 1, h => simp at h; subst h; simp [Addr.add]
  | 2, h => simp at h; subst h; simp [Addr.add]
  | 3, h => simp at h; subst h; simp [Addr.add]
  | 4, h => simp at h; subst h; simp [Addr.add]
  | 5, h => simp at h; subst h; simp [Addr.add]
  | 6, h => simp at h; subst h; simp [Addr.add]
  | 7, h => simp at h; subst h; simp [Addr.add]
  | 8, h => simp at h; subst h; simp [Addr.add]
  | 9, h => simp at h; subst h; simp [Addr.add]
  | j + 10, h => simp at h
theorem ten_cells {w : World} {p : Nat} {a0 a1 a2 a3 a4 a5 a6 a7 a8 a9 : Value} {T : TypeId} (h : w.heap[p]? = some (.cells #[a0, a1, a2, a3, a4, a5, a6, a7, a8, a9] T)) :
    w.cell? ⟨p, 0, none⟩ = some a0 ∧ w.cell? ⟨p, 1, none⟩ = some a1 ∧ w.cell? ⟨p, 2, none⟩ = some a2 ∧ w.cell? ⟨p, 3, none⟩ = some a3 ∧ w.cell? ⟨p, 4, none⟩ = some a4 ∧ w.cell? ⟨p, 5, none⟩ = some a5 ∧ w.cell? ⟨p, 6, none⟩ = some a6 ∧ w.cell? ⟨p, 7, none⟩ = some a7 ∧ w.cell? ⟨p, 8, none⟩ = some a8 ∧ w.cell? ⟨p, 9, none⟩ = some a9 ∧ ∀ o, w.frozen? ⟨p, o, none⟩ = false :=
  ⟨by simp [World.cell?, h], by simp [World.cell?, h], by simp [World.cell?, h], by simp [World.cell?, h], by simp [World.cell?, h], by simp [World.cell?, h], by simp [World.cell?, h], by simp [World.cell?, h], by simp [World.cell?, h], by simp [World.cell?, h], fun o => by simp [World.frozen?, h]⟩
end Go.Proofs.Ytphnhkoklnladaa
