/- Layer 7: the reference's Step. -/
import Derived.Test.YtkhppganhhmpeaaC7f
import Derived.Deep.Cut
namespace Go.Proofs.Ytkhppganhhmpeaa
open Go.RowKit
set_option linter.unusedVariables false
set_option maxHeartbeats 1000000 in
set_option maxRecDepth 100000 in
theorem rbegStep_go (r y ring cells size : Nat) (l : List Acc) (hs1 : 1 ≤ size) (hs2 : size ≤ 16) (L : List Int) (hL : ∀ x ∈ L, I64 x) (hlen : L.length ≤ 900) (thr : Int) (hll : l.length ≤ 3000000000000) (s0 n0 k i j : Int) (hp : nextP size L = (false, s0, n0, k, i, j)) (hrs : size = ring) (hA : isA ring cells k i j) (v : Int) (hv : wordOf l k i j = v) (hvI : I64 v) (th2 : Bool) (s2 n2 a2 b2 c2 : Int) (hp2 : nextP size (L ++ [v]) = (th2, s2, n2, a2, b2, c2)) :
    Lifts Try.prog 20 #[.pointer (some ⟨y, 0, none⟩), .pointer (some ⟨r, 0, none⟩), .int .i64 thr] (RBStep r y ring cells l size L) (RBStep r y ring cells (l ++ [ldAcc thr k i j v]) size (L ++ [v])) (.returned (.int .i64 (if th2 then 3 else 2))) := by
  obtain ⟨i0, hi, hI0, hI1, hI2⟩ := info_parts infoI64
  have HRL := Lib.hid (rload_in r ring cells l hll thr k i j hA)
  rw [hv] at HRL
  subst hrs
  rintro w F ⟨FA, FB, hM, ⟨lv, h1, h2, h3, h4⟩, hF, hd⟩
  have HM := Lib.hid hM
  have HY := Lib.hid (And.intro h1 (And.intro h2 (And.intro h3 h4)))
  have HFD := Lib.hid (And.intro hF hd)
  obtain ⟨a, c, rfl⟩ := ownAt_form h2
  obtain ⟨p0, p1, fz⟩ := two_cells h1
  have hy := heap_lt h1
  have KN : Hid (∀ wx : World, Below w.heap.size w wx → Calls Try.prog 43 #[.int .i64 size, .slice a L.length c] wx (NextGot wx (false, s0, n0, k, i, j))) := fun wx hb => next_at hs1 hs2 hL (by omega) (own_calm HY.out.2.1 hb) _ hp
  obtain ⟨rv, g1, g2, g3, g4⟩ := hM
  have hr := heap_lt g1
  clear hA hv h1 h2 h3 h4 hF hd g2 g3 g4
  have HG1 := Lib.hid g1
  clear g1
  go_enter Try.func20, Try.ntmps20
  go_wp2_with fail
  go_cut [7] from 11 (fun sl wx => ∃ b, sl = .pointer (some ⟨b, 0, none⟩) ∧ Hid (wx.heap[b]? = some (.cells #[.bool false, .int .i64 s0, .int .i64 n0, .int .i64 k, .int .i64 i, .int .i64 j] 111) ∧ Below w.heap.size w wx ∧ w.heap.size ≤ b))
  case first =>
    go_region_law (first | (go_simp; go_at_call 43; refine (KN.out _ (by first | (with_reducible exact Below.drew (Below.refl _ _)) | (with_reducible exact Below.alloc (Below.drew (Below.refl _ _)) (Nat.le_refl _) _) | (with_reducible exact Below.drew (Below.alloc (Below.refl _ _) (Nat.le_refl _) _)))).mono ?_; rintro e v1 ⟨rfl, hb⟩; unfold planV; (first | (have hbx := box_of_alloc hb; obtain ⟨x0, x1, x2, x3, x4, x5, xf⟩ := six_cells hbx) | (have hbx := box_of_allocd hb; obtain ⟨x0, x1, x2, x3, x4, x5, xf⟩ := six_cells hbx) | skip); go_simp))
    all_goals
      go_wp2_with fail
      go_meet
      case rel =>
        first
        | (have k1 := set6_heap hbx (.bool false) (.int .i64 s0) (.int .i64 n0) (.int .i64 k) (.int .i64 i) (.int .i64 j)
           have k2 := set6_below (((Below.refl w.heap.size w).alloc (Nat.le_refl _) _).drew.trans (hb.mono (by simp))) (Nat.le_refl _) (.bool false) (.int .i64 s0) (.int .i64 n0) (.int .i64 k) (.int .i64 i) (.int .i64 j)
           unfold set6 at k1 k2
           exact ⟨w.heap.size, rfl, k1, k2, Nat.le_refl _⟩)
        | (have k1 := heapAlloc v1 (.cells #[.bool false, .int .i64 s0, .int .i64 n0, .int .i64 k, .int .i64 i, .int .i64 j] 111)
           exact ⟨v1.heap.size, rfl, k1, ((Below.refl w.heap.size w).drew.trans hb).alloc hb.size _, hb.size⟩)
  obtain ⟨bb, rfl, HW⟩ := hcut
  obtain ⟨q0, q1, q2, qz⟩ := three_cells ((HW.out.2.1.block r hr).trans HG1.out)
  obtain ⟨p0', p1', fz'⟩ := two_cells ((HW.out.2.1.block y hy).trans HY.out.1)
  obtain ⟨y0, y1, y2, y3, y4, y5, yz⟩ := six_cells HW.out.1
  clear p0 p1 fz KN
  have e1 : ((size : Int) != (size : Int)) = false := by simp
  go_wp2_with fail
  go_quiet (fail)
  have H1 : Hid (Stp w (wc.drewN nq) F (RBStep r y size cells l size L)) := Stp.calm (RBStep.good _ _ _ _ _ _ _) ⟨FA, FB, HM.out, ⟨_, HY.out⟩, HFD.out⟩ (below_drewN HW.out.2.1 nq)
  have HBX : Hid ((wc.drewN nq).heap[bb]? = some (.cells #[.bool false, .int .i64 s0, .int .i64 n0, .int .i64 k, .int .i64 i, .int .i64 j] 111)) := HW.out.1
  go_wp2_with fail
  refine (Stp.lift (Lifts.left (LstH.good _ _ _ _ _) HRL.out) H1.out).mono ?_
  rintro e w4 ⟨rfl, h4⟩
  have H4 := Lib.hid h4
  obtain ⟨F4, ⟨FA4, FB4, hA4, ⟨lv4, k1, k2, k3, k4⟩, hF4, hd4⟩, c4⟩ := h4
  have HA4 := Lib.hid hA4
  have K1 := Lib.hid k1
  have K2 := Lib.hid k2
  have K3 := Lib.hid k3
  have K4 := Lib.hid k4
  have HFD4 := Lib.hid (And.intro hF4 hd4)
  have HC4 := Lib.hid c4
  obtain ⟨a4, ca4, rfl⟩ := ownAt_form k2
  obtain ⟨s0', s1', sz'⟩ := two_cells k1
  have hown := k2
  have hyl := heap_lt k1
  clear hA4 k1 k2 k3 k4 hF4 hd4 c4 p0' p1' fz' y0 y1 y2 y3 y4 y5 yz q0 q1 q2 qz
  go_wp2_with (at_builtin; refine wpList_append_own_at _ rfl (.tmp 47) (.tmp 49) 58 rfl 0 2 i0 (.int .i64 0) 1 8 Try.underlying58 hi hI0 hI1 hI2 rfl (by decide) _ _ _ rfl (hown.alloc _) ⟨w4.heap.size, 0, none⟩ 1 1 [.int .i64 v] rfl rfl ?c1 ?c2 ?c3 ?c4 ?c5 ?_)
  case c1 => exact cell_one_new _ _ _
  case c2 => intro u hu; simp at hu; subst hu; rfl
  case c3 => unfold maxLen; omega
  case c4 => omega
  case c5 => omega
  · intro v' w2 hown' hgrow _ hwhere
    obtain ⟨a5, ca5, rfl⟩ := ownAt_form hown'
    have hC5 : Chg (fun b => (Value.slice a4 L.length ca4).ownBlock = some b) w4 w2 := (Chg.alloc _ _ _).grow hgrow (fun b hb _ => hb)
    obtain ⟨t0, t1, tz⟩ := two_cells ((hC5.block y hyl (fun e => K3.out e)).trans K1.out)
    have hM5 := lst_grown (i := 1) (f := fun lv => #[.int .i64 size, lv]) (L' := L ++ [v]) K1.out K3.out K4.out (by simp) (by rw [List.map_append, List.length_append]; exact hown') hC5 (by
      rcases hwhere with e | e
      · exact .inl e
      · exact .inr ⟨_, e, by simp⟩)
    have H5 := Lib.hid ((Stp.comp HC4.out.1 HC4.out.2 (hM5.right (RMemH.good _ _ _ _) HA4.out HFD4.out.1 HFD4.out.2)))
    clear hown hown' hgrow hwhere hC5 hM5 s0' s1' sz'
    go_wp2_with fail
    generalize w2.setCell ⟨y, 1, none⟩ (.slice a5 (L.length + 1) ca5) = w5 at *
    obtain ⟨F6, lv6, m1, m2, m3, m4⟩ := H5.out.has.right
    obtain ⟨a6, c6, rfl⟩ := ownAt_form m2
    have hy6 := heap_lt m1
    obtain ⟨p0, p1, fz⟩ := two_cells m1
    have M2 := Lib.hid m2
    have KN2 : Hid (∀ wx : World, Below w5.heap.size w5 wx → Calls Try.prog 43 #[.int .i64 size, .slice a6 (L ++ [v]).length c6] wx (NextGot wx (th2, s2, n2, a2, b2, c2))) := fun wx hb => next_at hs1 hs2 (fun x hx => (List.mem_append.1 hx).elim (hL x) (fun h => by rw [List.mem_singleton.1 h]; exact hvI)) (by simp; omega) (own_calm M2.out hb) _ hp2
    clear m1 m2 m3 m4 t0 t1 tz
    have hlg : (L ++ [v]).length = L.length + 1 := by simp
    rw [hlg] at p1 KN2
    go_cut [10] from 11 (fun sl wx => ∃ b, sl = .pointer (some ⟨b, 0, none⟩) ∧ Hid (wx.heap[b]? = some (.cells #[.bool th2, .int .i64 s2, .int .i64 n2, .int .i64 a2, .int .i64 b2, .int .i64 c2] 111) ∧ Below w5.heap.size w5 wx ∧ w5.heap.size ≤ b))
    case first =>
      go_region_law (first | (go_simp; go_at_call 43; refine (KN2.out _ (by first | (with_reducible exact Below.drew (Below.refl _ _)) | (with_reducible exact Below.alloc (Below.drew (Below.refl _ _)) (Nat.le_refl _) _) | (with_reducible exact Below.drew (Below.alloc (Below.refl _ _) (Nat.le_refl _) _)))).mono ?_; rintro e v1 ⟨rfl, hb⟩; unfold planV; (first | (have hbx := box_of_alloc hb; obtain ⟨x0, x1, x2, x3, x4, x5, xf⟩ := six_cells hbx) | (have hbx := box_of_allocd hb; obtain ⟨x0, x1, x2, x3, x4, x5, xf⟩ := six_cells hbx) | skip); go_simp))
      all_goals
        go_wp2_with fail
        go_meet
        case rel =>
          first
          | (have k1 := set6_heap hbx (.bool th2) (.int .i64 s2) (.int .i64 n2) (.int .i64 a2) (.int .i64 b2) (.int .i64 c2)
             have k2 := set6_below (((Below.refl w5.heap.size w5).alloc (Nat.le_refl _) _).drew.trans (hb.mono (by simp))) (Nat.le_refl _) (.bool th2) (.int .i64 s2) (.int .i64 n2) (.int .i64 a2) (.int .i64 b2) (.int .i64 c2)
             unfold set6 at k1 k2
             exact ⟨w5.heap.size, rfl, k1, k2, Nat.le_refl _⟩)
          | (have k1 := heapAlloc v1 (.cells #[.bool th2, .int .i64 s2, .int .i64 n2, .int .i64 a2, .int .i64 b2, .int .i64 c2] 111)
             exact ⟨v1.heap.size, rfl, k1, ((Below.refl w5.heap.size w5).drew.trans hb).alloc hb.size _, hb.size⟩)
    obtain ⟨bb, rfl, HX⟩ := hcut
    obtain ⟨y0, y1, y2, y3, y4, y5, yz⟩ := six_cells HX.out.1
    have HE : Hid (Stp w wc F _) := H5.out.below (RBStep.good _ _ _ _ _ _ _) HX.out.2.1
    cases th2
    · go_wp2_with fail
      go_ret
      exact ⟨rfl, HE.out⟩
    · go_wp2_with fail
      go_ret
      exact ⟨rfl, HE.out⟩
end Go.Proofs.Ytkhppganhhmpeaa
