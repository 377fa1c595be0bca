/- Layer 3: word. -/
import Derived.Test.YtojkeahffabifaaC3
import Derived.StillTailTactics
import Derived.BigQuiet
import Derived.Deep.QuietTactic
import Derived.RegionTactic
import Derived.Below
import Derived.Maps.AppendAt
import Derived.OwnWalk
import Derived.ChangeAlike
namespace Go.Proofs.Ytojkeahffabifaa
open Go.RowKit
set_option linter.unusedVariables false
theorem mem_cells {w : World} {p : Nat} {n hv sv cv lv : Value} {T : TypeId} (h : w.heap[p]? = some (.cells #[n, hv, sv, cv, lv] T)) :
    w.cell? ⟨p, 0, none⟩ = some n ∧ w.cell? ⟨p, 1, none⟩ = some hv ∧ w.cell? ⟨p, 2, none⟩ = some sv ∧ w.cell? ⟨p, 3, none⟩ = some cv ∧ w.cell? ⟨p, 4, none⟩ = some lv ∧ ∀ o, w.frozen? ⟨p, o, none⟩ = false :=
  ⟨by simp [World.cell?, h], by simp [World.cell?, h], by simp [World.cell?, h], by simp [World.cell?, h], by simp [World.cell?, h], fun o => by simp [World.frozen?, h]⟩
/-- word has answered. -/
def WordGot (w : World) (p : Nat) (hv sv cv : Value) (k i j : Int) (e : Ending) (w' : World) : Prop := (∃ g o, e = .returned (.pointer (some ⟨g, o, none⟩)) ∧ PlaceOf p hv sv cv k i j g o) ∧ Below w.heap.size w w'
theorem word_in1 (w : World) (p : Nat) (hv sv cv : Value) : Calls Try.prog 41 #[.pointer (some ⟨p, 0, none⟩), .agg #[.int .i64 1, .int .i64 0, .int .i64 0]] w (WordGot w p hv sv cv 1 0 0) := by
  go_enter Try.func41, Try.ntmps41
  go_wp2_with fail
  go_ret
  exact ⟨⟨p, 0, rfl, .inl ⟨rfl, rfl, rfl, rfl, rfl⟩⟩, (Below.refl _ _).alloc (Nat.le_refl _) _⟩
set_option maxHeartbeats 1000000 in
theorem word_in2 (w : World) (p ring cells : Nat) (wd : Int → Int → Int → Int) (hv sv cv lv : Value) (h : MemW w p ring cells wd hv sv cv lv) (i : Nat) (hi : i < ring) : Calls Try.prog 41 #[.pointer (some ⟨p, 0, none⟩), .agg #[.int .i64 2, .int .i64 i, .int .i64 0]] w (WordGot w p hv sv cv 2 i 0) := by
  obtain ⟨hg, hc, rfl, _, _, _, _, _⟩ := own_parts h.2.1 (by omega)
  obtain ⟨_, p1, p2, p3, _, fz⟩ := mem_cells h.1
  have hpl := heap_lt h.1
  clear h
  go_enter Try.func41, Try.ntmps41
  go_wp2_with fail
  go_quiet (fail)
  go_wp2_with fail
  go_quiet (fail)
  go_wp2_with fail
  go_ret
  exact ⟨⟨hg, i, rfl, .inr (.inl ⟨rfl, rfl, rfl, rfl⟩)⟩, (below_drewN (below_drewN ((Below.refl _ _).alloc (Nat.le_refl _) _) _) _)⟩
set_option maxHeartbeats 1000000 in
theorem word_in3z (w : World) (p ring cells : Nat) (wd : Int → Int → Int → Int) (hv sv cv lv : Value) (h : MemW w p ring cells wd hv sv cv lv) (i : Nat) (hi : i < ring) : Calls Try.prog 41 #[.pointer (some ⟨p, 0, none⟩), .agg #[.int .i64 3, .int .i64 i, .int .i64 0]] w (WordGot w p hv sv cv 3 i 0) := by
  obtain ⟨hg, hc, rfl, _, _, _, _, _⟩ := own_parts h.2.2.1 (by omega)
  obtain ⟨_, p1, p2, p3, _, fz⟩ := mem_cells h.1
  have hpl := heap_lt h.1
  clear h
  go_enter Try.func41, Try.ntmps41
  go_wp2_with fail
  go_quiet (fail)
  go_wp2_with fail
  go_quiet (fail)
  go_wp2_with fail
  go_quiet (fail)
  go_wp2_with fail
  go_ret
  exact ⟨⟨hg, i * 8, rfl, .inr (.inr (.inl ⟨rfl, ⟨by omega, by omega⟩, rfl, by omega⟩))⟩, (below_drewN (below_drewN (below_drewN ((Below.refl _ _).alloc (Nat.le_refl _) _) _) _) _)⟩
set_option maxHeartbeats 1000000 in
theorem word_in3p (w : World) (p ring cells : Nat) (wd : Int → Int → Int → Int) (hv sv cv lv : Value) (h : MemW w p ring cells wd hv sv cv lv) (i j : Nat) (hi : i < ring) (hj : j < 8) (hj0 : 0 < j) : Calls Try.prog 41 #[.pointer (some ⟨p, 0, none⟩), .agg #[.int .i64 3, .int .i64 i, .int .i64 j]] w (WordGot w p hv sv cv 3 i j) := by
  obtain ⟨hg, hc, rfl, _, _, _, _, _⟩ := own_parts h.2.2.1 (by omega)
  obtain ⟨_, p1, p2, p3, _, fz⟩ := mem_cells h.1
  have hpl := heap_lt h.1
  clear h
  have hj1 : (0 : Int) < j := by omega
  go_enter Try.func41, Try.ntmps41
  go_wp2_with fail
  go_quiet (fail)
  go_wp2_with fail
  go_quiet (fail)
  go_wp2_with fail
  go_quiet (fail)
  go_wp2_with fail
  go_ret
  exact ⟨⟨hg, i * 8 + j, rfl, .inr (.inr (.inl ⟨rfl, ⟨by omega, by omega⟩, rfl, by omega⟩))⟩, (below_drewN (below_drewN (below_drewN ((Below.refl _ _).alloc (Nat.le_refl _) _) _) _) _)⟩
set_option maxHeartbeats 1000000 in
theorem word_in4 (w : World) (p ring cells : Nat) (wd : Int → Int → Int → Int) (hv sv cv lv : Value) (h : MemW w p ring cells wd hv sv cv lv) (i : Nat) (hi : i < cells) : Calls Try.prog 41 #[.pointer (some ⟨p, 0, none⟩), .agg #[.int .i64 4, .int .i64 i, .int .i64 0]] w (WordGot w p hv sv cv 4 i 0) := by
  obtain ⟨hg, hc, rfl, _, _, _, _, _⟩ := own_parts h.2.2.2 (by omega)
  obtain ⟨_, p1, p2, p3, _, fz⟩ := mem_cells h.1
  have hpl := heap_lt h.1
  clear h
  go_enter Try.func41, Try.ntmps41
  go_wp2_with fail
  go_quiet (fail)
  go_wp2_with fail
  go_quiet (fail)
  go_wp2_with fail
  go_quiet (fail)
  go_wp2_with fail
  go_quiet (fail)
  go_wp2_with fail
  go_ret
  exact ⟨⟨hg, i, rfl, .inr (.inr (.inr ⟨rfl, rfl, rfl, rfl⟩))⟩, (below_drewN (below_drewN (below_drewN (below_drewN ((Below.refl _ _).alloc (Nat.le_refl _) _) _) _) _) _)⟩
theorem word_in (w : World) (p ring cells : Nat) (wd : Int → Int → Int → Int) (hv sv cv lv : Value) (h : MemW w p ring cells wd hv sv cv lv) (k i j : Int) (ha : isA ring cells k i j) : Calls Try.prog 41 #[.pointer (some ⟨p, 0, none⟩), .agg #[.int .i64 k, .int .i64 i, .int .i64 j]] w (WordGot w p hv sv cv k i j) := by
  rcases ha with ⟨rfl, rfl, rfl⟩ | ⟨rfl, ⟨h1, h2⟩, rfl⟩ | ⟨rfl, ⟨h1, h2⟩, h3, h4⟩ | ⟨rfl, ⟨h1, h2⟩, rfl⟩
  · exact word_in1 w p hv sv cv
  · obtain ⟨i, rfl⟩ : ∃ m : Nat, i = m := ⟨i.toNat, by omega⟩
    exact word_in2 w p ring cells wd hv sv cv lv h i (by omega)
  · obtain ⟨i, rfl⟩ : ∃ m : Nat, i = m := ⟨i.toNat, by omega⟩
    obtain ⟨j, rfl⟩ : ∃ m : Nat, j = m := ⟨j.toNat, by omega⟩
    rcases Nat.eq_zero_or_pos j with rfl | hj0
    · exact word_in3z w p ring cells wd hv sv cv lv h i (by omega)
    · exact word_in3p w p ring cells wd hv sv cv lv h i j (by omega) (by omega) hj0
  · obtain ⟨i, rfl⟩ : ∃ m : Nat, i = m := ⟨i.toNat, by omega⟩
    exact word_in4 w p ring cells wd hv sv cv lv h i (by omega)
/-- word has found none. -/
def WordNo (w : World) (e : Ending) (w' : World) : Prop := e = .returned (.pointer none) ∧ Below w.heap.size w w'
set_option maxHeartbeats 1000000 in
theorem word_noA (w : World) (p ring cells : Nat) (wd : Int → Int → Int → Int) (hv sv cv lv : Value) (h : MemW w p ring cells wd hv sv cv lv) (k i j : Int) (h1 : i < 0) : Calls Try.prog 41 #[.pointer (some ⟨p, 0, none⟩), .agg #[.int .i64 k, .int .i64 i, .int .i64 j]] w (WordNo w) := by
  obtain ⟨ha, hac, rfl⟩ := ownAt_form h.2.1
  obtain ⟨sa, sac, rfl⟩ := ownAt_form h.2.2.1
  obtain ⟨ca, cac, rfl⟩ := ownAt_form h.2.2.2
  obtain ⟨_, p1, p2, p3, _, fz⟩ := mem_cells h.1
  have hpl := heap_lt h.1
  clear h
  go_enter Try.func41, Try.ntmps41
  go_wp2_with fail
  go_ret
  exact ⟨rfl, ((Below.refl _ _).alloc (Nat.le_refl _) _)⟩
set_option maxHeartbeats 1000000 in
theorem word_noB (w : World) (p ring cells : Nat) (wd : Int → Int → Int → Int) (hv sv cv lv : Value) (h : MemW w p ring cells wd hv sv cv lv) (k i j : Int) (h1 : ¬ i < 0) (h2 : j < 0) : Calls Try.prog 41 #[.pointer (some ⟨p, 0, none⟩), .agg #[.int .i64 k, .int .i64 i, .int .i64 j]] w (WordNo w) := by
  obtain ⟨ha, hac, rfl⟩ := ownAt_form h.2.1
  obtain ⟨sa, sac, rfl⟩ := ownAt_form h.2.2.1
  obtain ⟨ca, cac, rfl⟩ := ownAt_form h.2.2.2
  obtain ⟨_, p1, p2, p3, _, fz⟩ := mem_cells h.1
  have hpl := heap_lt h.1
  clear h
  go_enter Try.func41, Try.ntmps41
  go_wp2_with fail
  go_ret
  exact ⟨rfl, ((Below.refl _ _).alloc (Nat.le_refl _) _)⟩
set_option maxHeartbeats 1000000 in
theorem word_noC (w : World) (p ring cells : Nat) (wd : Int → Int → Int → Int) (hv sv cv lv : Value) (h : MemW w p ring cells wd hv sv cv lv) (k i j : Int) (h1 : ¬ i < 0) (h2 : ¬ j < 0) (h3 : 0 < j) (h4 : k ≠ 3) : Calls Try.prog 41 #[.pointer (some ⟨p, 0, none⟩), .agg #[.int .i64 k, .int .i64 i, .int .i64 j]] w (WordNo w) := by
  obtain ⟨ha, hac, rfl⟩ := ownAt_form h.2.1
  obtain ⟨sa, sac, rfl⟩ := ownAt_form h.2.2.1
  obtain ⟨ca, cac, rfl⟩ := ownAt_form h.2.2.2
  obtain ⟨_, p1, p2, p3, _, fz⟩ := mem_cells h.1
  have hpl := heap_lt h.1
  clear h
  have k3 : (k == 3) = false := by simp [h4]
  have k33 : (k != 3) = true := by simp [h4]
  go_enter Try.func41, Try.ntmps41
  go_wp2_with fail
  go_ret
  exact ⟨rfl, ((Below.refl _ _).alloc (Nat.le_refl _) _)⟩
set_option maxHeartbeats 1000000 in
theorem word_noD (w : World) (p ring cells : Nat) (wd : Int → Int → Int → Int) (hv sv cv lv : Value) (h : MemW w p ring cells wd hv sv cv lv) (i : Int) (h1 : ¬ i < 0) (h2 : i ≠ 0) : Calls Try.prog 41 #[.pointer (some ⟨p, 0, none⟩), .agg #[.int .i64 1, .int .i64 i, .int .i64 0]] w (WordNo w) := by
  obtain ⟨ha, hac, rfl⟩ := ownAt_form h.2.1
  obtain ⟨sa, sac, rfl⟩ := ownAt_form h.2.2.1
  obtain ⟨ca, cac, rfl⟩ := ownAt_form h.2.2.2
  obtain ⟨_, p1, p2, p3, _, fz⟩ := mem_cells h.1
  have hpl := heap_lt h.1
  clear h
  have i0 : (i == 0) = false := by simp [h2]
  go_enter Try.func41, Try.ntmps41
  go_wp2_with fail
  go_quiet (fail)
  go_wp2_with fail
  go_quiet (fail)
  go_wp2_with fail
  go_quiet (fail)
  go_wp2_with fail
  go_ret
  exact ⟨rfl, (below_drewN (below_drewN (below_drewN ((Below.refl _ _).alloc (Nat.le_refl _) _) _) _) _)⟩
set_option maxHeartbeats 1000000 in
theorem word_noE (w : World) (p ring cells : Nat) (wd : Int → Int → Int → Int) (hv sv cv lv : Value) (h : MemW w p ring cells wd hv sv cv lv) (i : Int) (h1 : ¬ i < 0) (h2 : ¬ i < ring) : Calls Try.prog 41 #[.pointer (some ⟨p, 0, none⟩), .agg #[.int .i64 2, .int .i64 i, .int .i64 0]] w (WordNo w) := by
  obtain ⟨ha, hac, rfl⟩ := ownAt_form h.2.1
  obtain ⟨sa, sac, rfl⟩ := ownAt_form h.2.2.1
  obtain ⟨ca, cac, rfl⟩ := ownAt_form h.2.2.2
  obtain ⟨_, p1, p2, p3, _, fz⟩ := mem_cells h.1
  have hpl := heap_lt h.1
  clear h
  go_enter Try.func41, Try.ntmps41
  go_wp2_with fail
  go_quiet (fail)
  go_wp2_with fail
  go_quiet (fail)
  go_wp2_with fail
  go_quiet (fail)
  go_wp2_with fail
  go_ret
  exact ⟨rfl, (below_drewN (below_drewN (below_drewN ((Below.refl _ _).alloc (Nat.le_refl _) _) _) _) _)⟩
set_option maxHeartbeats 1000000 in
theorem word_noFz (w : World) (p ring cells : Nat) (wd : Int → Int → Int → Int) (hv sv cv lv : Value) (h : MemW w p ring cells wd hv sv cv lv) (i : Int) (h1 : ¬ i < 0) (h3 : ¬ i < ring) : Calls Try.prog 41 #[.pointer (some ⟨p, 0, none⟩), .agg #[.int .i64 3, .int .i64 i, .int .i64 0]] w (WordNo w) := by
  obtain ⟨ha, hac, rfl⟩ := ownAt_form h.2.1
  obtain ⟨sa, sac, rfl⟩ := ownAt_form h.2.2.1
  obtain ⟨ca, cac, rfl⟩ := ownAt_form h.2.2.2
  obtain ⟨_, p1, p2, p3, _, fz⟩ := mem_cells h.1
  have hpl := heap_lt h.1
  clear h
  have hd : decide (i < (ring : Int)) = false := by simpa using h3
  go_enter Try.func41, Try.ntmps41
  go_wp2_with fail
  go_quiet (fail)
  go_wp2_with fail
  go_quiet (fail)
  go_wp2_with fail
  go_quiet (fail)
  go_wp2_with fail
  go_ret
  exact ⟨rfl, (below_drewN (below_drewN (below_drewN ((Below.refl _ _).alloc (Nat.le_refl _) _) _) _) _)⟩
set_option maxHeartbeats 1000000 in
theorem word_noFp (w : World) (p ring cells : Nat) (wd : Int → Int → Int → Int) (hv sv cv lv : Value) (h : MemW w p ring cells wd hv sv cv lv) (i j : Int) (h1 : ¬ i < 0) (h2 : 0 < j) (h3 : ¬ i < ring) : Calls Try.prog 41 #[.pointer (some ⟨p, 0, none⟩), .agg #[.int .i64 3, .int .i64 i, .int .i64 j]] w (WordNo w) := by
  obtain ⟨ha, hac, rfl⟩ := ownAt_form h.2.1
  obtain ⟨sa, sac, rfl⟩ := ownAt_form h.2.2.1
  obtain ⟨ca, cac, rfl⟩ := ownAt_form h.2.2.2
  obtain ⟨_, p1, p2, p3, _, fz⟩ := mem_cells h.1
  have hpl := heap_lt h.1
  clear h
  have hd : decide (i < (ring : Int)) = false := by simpa using h3
  go_enter Try.func41, Try.ntmps41
  go_wp2_with fail
  go_quiet (fail)
  go_wp2_with fail
  go_quiet (fail)
  go_wp2_with fail
  go_quiet (fail)
  go_wp2_with fail
  go_ret
  exact ⟨rfl, (below_drewN (below_drewN (below_drewN ((Below.refl _ _).alloc (Nat.le_refl _) _) _) _) _)⟩
set_option maxHeartbeats 1000000 in
theorem word_noG (w : World) (p ring cells : Nat) (wd : Int → Int → Int → Int) (hv sv cv lv : Value) (h : MemW w p ring cells wd hv sv cv lv) (i j : Int) (h1 : ¬ i < 0) (h2 : ¬ j < 0) (h3 : i < ring) (h4 : ¬ j < 8) : Calls Try.prog 41 #[.pointer (some ⟨p, 0, none⟩), .agg #[.int .i64 3, .int .i64 i, .int .i64 j]] w (WordNo w) := by
  obtain ⟨ha, hac, rfl⟩ := ownAt_form h.2.1
  obtain ⟨sa, sac, rfl⟩ := ownAt_form h.2.2.1
  obtain ⟨ca, cac, rfl⟩ := ownAt_form h.2.2.2
  obtain ⟨_, p1, p2, p3, _, fz⟩ := mem_cells h.1
  have hpl := heap_lt h.1
  clear h
  go_enter Try.func41, Try.ntmps41
  go_wp2_with fail
  go_quiet (fail)
  go_wp2_with fail
  go_quiet (fail)
  go_wp2_with fail
  go_quiet (fail)
  go_wp2_with fail
  go_ret
  exact ⟨rfl, (below_drewN (below_drewN (below_drewN ((Below.refl _ _).alloc (Nat.le_refl _) _) _) _) _)⟩
set_option maxHeartbeats 1000000 in
theorem word_noH (w : World) (p ring cells : Nat) (wd : Int → Int → Int → Int) (hv sv cv lv : Value) (h : MemW w p ring cells wd hv sv cv lv) (i : Int) (h1 : ¬ i < 0) (h2 : ¬ i < cells) : Calls Try.prog 41 #[.pointer (some ⟨p, 0, none⟩), .agg #[.int .i64 4, .int .i64 i, .int .i64 0]] w (WordNo w) := by
  obtain ⟨ha, hac, rfl⟩ := ownAt_form h.2.1
  obtain ⟨sa, sac, rfl⟩ := ownAt_form h.2.2.1
  obtain ⟨ca, cac, rfl⟩ := ownAt_form h.2.2.2
  obtain ⟨_, p1, p2, p3, _, fz⟩ := mem_cells h.1
  have hpl := heap_lt h.1
  clear h
  go_enter Try.func41, Try.ntmps41
  go_wp2_with fail
  go_quiet (fail)
  go_wp2_with fail
  go_quiet (fail)
  go_wp2_with fail
  go_quiet (fail)
  go_wp2_with fail
  go_ret
  exact ⟨rfl, (below_drewN (below_drewN (below_drewN ((Below.refl _ _).alloc (Nat.le_refl _) _) _) _) _)⟩
set_option maxHeartbeats 1000000 in
theorem word_noI (w : World) (p ring cells : Nat) (wd : Int → Int → Int → Int) (hv sv cv lv : Value) (h : MemW w p ring cells wd hv sv cv lv) (k i : Int) (h1 : ¬ i < 0) (h2 : k ≠ 1) (h3 : k ≠ 2) (h4 : k ≠ 3) (h5 : k ≠ 4) : Calls Try.prog 41 #[.pointer (some ⟨p, 0, none⟩), .agg #[.int .i64 k, .int .i64 i, .int .i64 0]] w (WordNo w) := by
  obtain ⟨ha, hac, rfl⟩ := ownAt_form h.2.1
  obtain ⟨sa, sac, rfl⟩ := ownAt_form h.2.2.1
  obtain ⟨ca, cac, rfl⟩ := ownAt_form h.2.2.2
  obtain ⟨_, p1, p2, p3, _, fz⟩ := mem_cells h.1
  have hpl := heap_lt h.1
  clear h
  have k1 : (k == 1) = false := by simp [h2]
  have k2 : (k == 2) = false := by simp [h3]
  have k3 : (k == 3) = false := by simp [h4]
  have k4 : (k == 4) = false := by simp [h5]
  have k33 : (k != 3) = true := by simp [h4]
  go_enter Try.func41, Try.ntmps41
  go_wp2_with fail
  go_quiet (fail)
  go_wp2_with fail
  go_quiet (fail)
  go_wp2_with fail
  go_quiet (fail)
  go_wp2_with fail
  go_ret
  exact ⟨rfl, (below_drewN (below_drewN (below_drewN ((Below.refl _ _).alloc (Nat.le_refl _) _) _) _) _)⟩
theorem word_out (w : World) (p ring cells : Nat) (wd : Int → Int → Int → Int) (hv sv cv lv : Value) (h : MemW w p ring cells wd hv sv cv lv) (k i j : Int) (ha : ¬ isA ring cells k i j) : Calls Try.prog 41 #[.pointer (some ⟨p, 0, none⟩), .agg #[.int .i64 k, .int .i64 i, .int .i64 j]] w (WordNo w) := by
  unfold isA at ha
  by_cases h1 : i < 0
  · exact word_noA w p ring cells wd hv sv cv lv h k i j h1
  by_cases h2 : j < 0
  · exact word_noB w p ring cells wd hv sv cv lv h k i j h1 h2
  by_cases h3 : k = 3
  · subst h3
    by_cases h4 : i < ring
    · exact word_noG w p ring cells wd hv sv cv lv h i j h1 h2 h4 (by omega)
    · by_cases h5 : 0 < j
      · exact word_noFp w p ring cells wd hv sv cv lv h i j h1 h5 h4
      · obtain rfl : j = 0 := by omega
        exact word_noFz w p ring cells wd hv sv cv lv h i h1 h4
  by_cases h4 : 0 < j
  · exact word_noC w p ring cells wd hv sv cv lv h k i j h1 h2 h4 h3
  obtain rfl : j = 0 := by omega
  by_cases k1 : k = 1
  · subst k1
    exact word_noD w p ring cells wd hv sv cv lv h i h1 (by omega)
  by_cases k2 : k = 2
  · subst k2
    exact word_noE w p ring cells wd hv sv cv lv h i h1 (by omega)
  by_cases k4 : k = 4
  · subst k4
    exact word_noH w p ring cells wd hv sv cv lv h i h1 (by omega)
  exact word_noI w p ring cells wd hv sv cv lv h k i h1 k1 k2 h3 k4
end Go.Proofs.Ytojkeahffabifaa
