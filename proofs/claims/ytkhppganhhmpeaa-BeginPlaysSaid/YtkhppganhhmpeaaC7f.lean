/- Layer 7: the reference's Step. -/
import Derived.Test.YtkhppganhhmpeaaC7e
import Derived.Deep.Cut
namespace Go.Proofs.Ytkhppganhhmpeaa
open Go.RowKit
set_option linter.unusedVariables false
set_option maxHeartbeats 1000000 in
set_option maxRecDepth 100000 in
theorem rbegStep_none (r y ring cells size : Nat) (l : List Acc) (hs1 : 1 ≤ size) (hs2 : size ≤ 16) (L : List Int) (hL : ∀ x ∈ L, I64 x) (hlen : L.length ≤ 900) (thr : Int) (th : Bool) (s n r1 r2 r3 : Int) (hp : nextP size L = (th, s, n, r1, r2, r3)) (hn : th = true ∨ ring ≠ size) :
    Looks Try.prog 20 #[.pointer (some ⟨y, 0, none⟩), .pointer (some ⟨r, 0, none⟩), .int .i64 thr] (RBStep r y ring cells l size L) (.returned (.int .i64 0)) := by
  rintro w F ⟨FA, FB, hM, ⟨lv, h1, h2, h3, h4⟩, hF, hd⟩
  have HM := Lib.hid hM
  have HY := Lib.hid (And.intro h1 (And.intro h2 (And.intro h3 h4)))
  have HFD := Lib.hid (And.intro hF hd)
  obtain ⟨a, c, rfl⟩ := ownAt_form h2
  obtain ⟨p0, p1, fz⟩ := two_cells h1
  have hy := heap_lt h1
  have KN : Hid (∀ wx : World, Below w.heap.size w wx → Calls Try.prog 43 #[.int .i64 size, .slice a L.length c] wx (NextGot wx (th, s, n, r1, r2, r3))) := fun wx hb => next_at hs1 hs2 hL (by omega) (own_calm HY.out.2.1 hb) _ hp
  obtain ⟨rv, g1, g2, g3, g4⟩ := hM
  have hr := heap_lt g1
  clear h1 h2 h3 h4 hF hd g2 g3 g4
  have HG1 := Lib.hid g1
  clear g1
  go_enter Try.func20, Try.ntmps20
  go_wp2_with fail
  go_cut [7] from 11 (fun sl wx => ∃ b, sl = .pointer (some ⟨b, 0, none⟩) ∧ Hid (wx.heap[b]? = some (.cells #[.bool th, .int .i64 s, .int .i64 n, .int .i64 r1, .int .i64 r2, .int .i64 r3] 111) ∧ Below w.heap.size w wx ∧ w.heap.size ≤ b))
  case first =>
    go_region_law (first | (go_simp; go_at_call 43; refine (KN.out _ (by first | (with_reducible exact Below.drew (Below.refl _ _)) | (with_reducible exact Below.alloc (Below.drew (Below.refl _ _)) (Nat.le_refl _) _) | (with_reducible exact Below.drew (Below.alloc (Below.refl _ _) (Nat.le_refl _) _)))).mono ?_; rintro e v1 ⟨rfl, hb⟩; unfold planV; (first | (have hbx := box_of_alloc hb; obtain ⟨x0, x1, x2, x3, x4, x5, xf⟩ := six_cells hbx) | (have hbx := box_of_allocd hb; obtain ⟨x0, x1, x2, x3, x4, x5, xf⟩ := six_cells hbx) | skip); go_simp))
    all_goals
      go_wp2_with fail
      go_meet
      case rel =>
        first
        | (have k1 := set6_heap hbx (.bool th) (.int .i64 s) (.int .i64 n) (.int .i64 r1) (.int .i64 r2) (.int .i64 r3)
           have k2 := set6_below (((Below.refl w.heap.size w).alloc (Nat.le_refl _) _).drew.trans (hb.mono (by simp))) (Nat.le_refl _) (.bool th) (.int .i64 s) (.int .i64 n) (.int .i64 r1) (.int .i64 r2) (.int .i64 r3)
           unfold set6 at k1 k2
           exact ⟨w.heap.size, rfl, k1, k2, Nat.le_refl _⟩)
        | (have k1 := heapAlloc v1 (.cells #[.bool th, .int .i64 s, .int .i64 n, .int .i64 r1, .int .i64 r2, .int .i64 r3] 111)
           exact ⟨v1.heap.size, rfl, k1, ((Below.refl w.heap.size w).drew.trans hb).alloc hb.size _, hb.size⟩)
  obtain ⟨bb, rfl, HW⟩ := hcut
  obtain ⟨q0, q1, q2, qz⟩ := three_cells ((HW.out.2.1.block r hr).trans HG1.out)
  obtain ⟨p0', p1', fz'⟩ := two_cells ((HW.out.2.1.block y hy).trans HY.out.1)
  obtain ⟨y0, y1, y2, y3, y4, y5, yz⟩ := six_cells HW.out.1
  clear p0 p1 fz KN
  cases th
  · have hne : ((ring : Int) != (size : Int)) = true := by have := hn.resolve_left (by decide); simp; omega
    go_wp2_with fail
    go_quiet (fail)
    go_wp2_with fail
    go_ret
    exact ⟨rfl, below_drewN HW.out.2.1 _⟩
  · go_wp2_with fail
    go_quiet (fail)
    go_wp2_with fail
    go_ret
    exact ⟨rfl, below_drewN HW.out.2.1 _⟩
end Go.Proofs.Ytkhppganhhmpeaa
