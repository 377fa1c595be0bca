/- Layer 7: the reference's Step and Start. -/
import Derived.Test.YtkhppganhhmpeaaC7d
import Derived.Deep.RegionHeld3
import Derived.Deep.RegionLaw
namespace Go.Proofs.Ytkhppganhhmpeaa
open Go.RowKit
set_option linter.unusedVariables false
abbrev RBegH (y size : Nat) (L : List Int) : HP := LstH y (fun lv => #[.int .i64 size, lv]) 60 2 L
abbrev RBStep (r y ring cells : Nat) (l : List Acc) (size : Nat) (L : List Int) : HP := Star (RMemH r ring cells l) (RBegH y size L)
theorem RBStep.good (r y ring cells : Nat) (l : List Acc) (size : Nat) (L : List Int) : Good (RBStep r y ring cells l size L) := (RMemH.good _ _ _ _).star (LstH.good _ _ _ _ _)
theorem two_cells {w : World} {p : Nat} {a b : Value} {T : TypeId} (h : w.heap[p]? = some (.cells #[a, b] T)) :
    w.cell? ⟨p, 0, none⟩ = some a ∧ w.cell? ⟨p, 1, none⟩ = some b ∧ ∀ o, w.frozen? ⟨p, o, none⟩ = false :=
  ⟨by simp [World.cell?, h], by simp [World.cell?, h], fun o => by simp [World.frozen?, h]⟩
theorem below_realloc {B : Nat} {w w1 : World} {o o' : Obj} (h : Below B w (w1.alloc o)) (hB : B ≤ w1.heap.size) : Below B w (w1.alloc o') := by
  refine ⟨h.os, h.tape, h.output, by have := h.size; simp at this ⊢; exact this, fun k hk => ?_⟩
  have e := h.block k hk
  rw [← e, Below.heap_alloc _ _ _ (by omega), Below.heap_alloc _ _ _ (by omega)]
theorem box_of_alloc {w w1 : World} {o : Obj} (hb : Below (w.alloc o).heap.size (w.alloc o) w1) : w1.heap[w.heap.size]? = some o := (hb.block _ (by simp)).trans (heapAlloc w o)
theorem box_of_allocd {w w1 : World} {o : Obj} (hb : Below (w.alloc o).drew.heap.size (w.alloc o).drew w1) : w1.heap[w.heap.size]? = some o := (hb.block _ (by simp)).trans (heapAlloc w o)
/-- Six cells of a block are stored. -/
def set6 (w : World) (b : Nat) (v0 v1 v2 v3 v4 v5 : Value) : World := (((((w.setCell ⟨b, 0, none⟩ v0).setCell ⟨b, 1, none⟩ v1).setCell ⟨b, 2, none⟩ v2).setCell ⟨b, 3, none⟩ v3).setCell ⟨b, 4, none⟩ v4).setCell ⟨b, 5, none⟩ v5
theorem set6_heap {w : World} {b : Nat} {a0 a1 a2 a3 a4 a5 : Value} {T : TypeId} (h : w.heap[b]? = some (.cells #[a0, a1, a2, a3, a4, a5] T)) (v0 v1 v2 v3 v4 v5 : Value) : (set6 w b v0 v1 v2 v3 v4 v5).heap[b]? = some (.cells #[v0, v1, v2, v3, v4, v5] T) :=
  heapSet_eq _ _ _ _ _ _ _ (heapSet_eq _ _ _ _ _ _ _ (heapSet_eq _ _ _ _ _ _ _ (heapSet_eq _ _ _ _ _ _ _ (heapSet_eq _ _ _ _ _ _ _ (heapSet_eq _ _ _ _ _ _ _ h)))))
theorem set6_below {B : Nat} {w0 w : World} (h : Below B w0 w) {b : Nat} (hb : B ≤ b) (v0 v1 v2 v3 v4 v5 : Value) : Below B w0 (set6 w b v0 v1 v2 v3 v4 v5) :=
  (((((h.setCell hb _).setCell hb _).setCell hb _).setCell hb _).setCell hb _).setCell hb _
/-- Next, asked in a world behind w. -/
theorem next_at {size : Nat} (hs1 : 1 ≤ size) (hs2 : size ≤ 16) {L : List Int} (hL : ∀ x ∈ L, I64 x) (hlen : L.length ≤ 1000) {w : World} {lv : Value} (ho : w.ownsRow 0 2 1 lv L.length (L.map (Value.int .i64))) (p : Bool × Int × Int × Int × Int × Int) (hp : nextP size L = p) :
    Calls Try.prog 43 #[.int .i64 size, lv] w (NextGot w p) := hp ▸ next_any size hs1 hs2 lv L hL w ho hlen
set_option maxHeartbeats 4000000 in
set_option maxRecDepth 100000 in
theorem rbegStart_any (y size : Nat) (hs1 : 1 ≤ size) (hs2 : size ≤ 16) (L : List Int) (hL : ∀ x ∈ L, I64 x) (hlen : L.length ≤ 1000) (th : Bool) (s n : Int) (rest : Int × Int × Int) (hp : nextP size L = (th, s, n, rest)) :
    Looks Try.prog 45 #[.pointer (some ⟨y, 0, none⟩)] (RBegH y size L) (.returned (.tuple #[.int .i64 (if th then s else 0), .int .i64 (if th then n else 0), .bool th])) := by
  rintro w F ⟨lv, h1, h2, h3, h4⟩
  obtain ⟨a, c, rfl⟩ := ownAt_form h2
  obtain ⟨p0, p1, fz⟩ := two_cells h1
  obtain ⟨r1, r2, r3⟩ := rest
  have hy := heap_lt h1
  have H2 := Lib.hid h2
  have keepS : ∀ wx : World, Below w.heap.size w wx → Below w.heap.size w wx ∧ wx.cell? ⟨y, 0, none⟩ = some (.int .i64 size) ∧ wx.cell? ⟨y, 1, none⟩ = some (.slice a L.length c) := fun wx hb => ⟨hb, (hb.cell (p := ⟨y, 0, none⟩) hy).trans p0, (hb.cell (p := ⟨y, 1, none⟩) hy).trans p1⟩
  have HN : ∀ wx : World, Below w.heap.size w wx → Calls Try.prog 43 #[.int .i64 size, .slice a L.length c] wx (NextGot wx (th, s, n, r1, r2, r3)) := fun wx hb => next_at hs1 hs2 hL hlen (own_calm H2.out hb) _ hp
  have KS := Lib.hid keepS
  have KN := Lib.hid HN
  clear h1 h2 h3 h4 p0 p1 fz keepS HN
  go_enter Try.func45, Try.ntmps45
  go_wp2_with fail
  obtain ⟨_, p0, p1⟩ := KS.out w (Below.refl _ _)
  go_region_law (first | (go_simp; go_at_call 43; refine (KN.out _ (by first | (with_reducible exact Below.drew (Below.refl _ _)) | (with_reducible exact Below.alloc (Below.drew (Below.refl _ _)) (Nat.le_refl _) _) | (with_reducible exact Below.drew (Below.alloc (Below.refl _ _) (Nat.le_refl _) _)))).mono ?_; rintro e w1 ⟨rfl, hb⟩; unfold planV; (first | (have hbx := box_of_alloc hb; obtain ⟨x0, x1, x2, x3, x4, x5, xf⟩ := six_cells hbx) | (have hbx := box_of_allocd hb; obtain ⟨x0, x1, x2, x3, x4, x5, xf⟩ := six_cells hbx) | skip); go_simp))
  all_goals (first
    | (have HW : Hid (Below w.heap.size w (w1.alloc (.cells #[.bool th, .int .i64 s, .int .i64 n, .int .i64 r1, .int .i64 r2, .int .i64 r3] 111))) := ((Below.refl w.heap.size w).drew.trans hb).alloc hb.size _
       obtain ⟨y0, y1, y2, y3, y4, y5, yz⟩ := six_cells (heapAlloc w1 (.cells #[.bool th, .int .i64 s, .int .i64 n, .int .i64 r1, .int .i64 r2, .int .i64 r3] 111))
       clear hb
       generalize w1.alloc (.cells #[.bool th, .int .i64 s, .int .i64 n, .int .i64 r1, .int .i64 r2, .int .i64 r3] 111) = wz at *
       generalize w1.heap.size = bb at *)
    | (have hbw : Below w.heap.size w w1 := ((Below.refl w.heap.size w).alloc (Nat.le_refl _) _).drew.trans (hb.mono (by simp))
       have HW : Hid (Below w.heap.size w (set6 w1 w.heap.size (.bool th) (.int .i64 s) (.int .i64 n) (.int .i64 r1) (.int .i64 r2) (.int .i64 r3))) := set6_below hbw (Nat.le_refl _) (.bool th) (.int .i64 s) (.int .i64 n) (.int .i64 r1) (.int .i64 r2) (.int .i64 r3)
       obtain ⟨y0, y1, y2, y3, y4, y5, yz⟩ := six_cells (set6_heap hbx (.bool th) (.int .i64 s) (.int .i64 n) (.int .i64 r1) (.int .i64 r2) (.int .i64 r3))
       clear hb x0 x1 x2 x3 x4 x5 xf hbx hbw
       unfold set6 at HW y0 y1 y2 y3 y4 y5 yz
       generalize (((((w1.setCell ⟨w.heap.size, 0, none⟩ (.bool th)).setCell ⟨w.heap.size, 1, none⟩ (.int .i64 s)).setCell ⟨w.heap.size, 2, none⟩ (.int .i64 n)).setCell ⟨w.heap.size, 3, none⟩ (.int .i64 r1)).setCell ⟨w.heap.size, 4, none⟩ (.int .i64 r2)).setCell ⟨w.heap.size, 5, none⟩ (.int .i64 r3) = wz at *
       have bb := w.heap.size))
  all_goals
    cases th
    · go_wp2_with fail
      refine bodyPost_ret (v := _) (by simp [results, Try.results45, go_sem]; rfl) rfl ?_
      exact ⟨rfl, HW.out⟩
    · go_wp2_with fail
      go_quiet (fail)
      go_wp2_with fail
      refine bodyPost_ret (v := _) (by simp [results, Try.results45, go_sem]; rfl) rfl ?_
      exact ⟨rfl, below_drewN HW.out _⟩
end Go.Proofs.Ytkhppganhhmpeaa
