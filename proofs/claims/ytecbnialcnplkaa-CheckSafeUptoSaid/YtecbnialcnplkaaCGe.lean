/- The ring that grows: end. -/
import Derived.Test.YtecbnialcnplkaaCGb
namespace Go.Proofs.Ytecbnialcnplkaa
open Go.RowKit
set_option linter.unusedVariables false
set_option maxHeartbeats 2000000 in
set_option maxRecDepth 100000 in
theorem end_any (p x size cells : Nat) (l : List Acc) (g : GS) (hi : GInv size cells g l) (hs1 : 1 ≤ size) (hs2 : size ≤ 16) (hlen : l.length ≤ 90000000000) :
    Lifts Try.prog 32 #[.pointer (some ⟨x, 0, none⟩), .pointer (some ⟨p, 0, none⟩)] (MG p x size cells l g) (MG p x size cells (endG size g l).2 (endG size g l).1) (.returned (.tuple #[])) := by
  have hbig := hi.big
  have hll := hi.ll
  have hdl := hi.dl
  intro w F hO
  have HO := Lib.hid (Stp.refl hO)
  clear hO
  by_cases hlt : g.done < g.laid
  · obtain ⟨e, he⟩ : ∃ e, g.es[g.done]? = some e := ⟨_, List.getElem?_eq_getElem (by omega)⟩
    obtain ⟨gb, lc, va, vc, hx, hE, gz, hw, hset⟩ := MG.at HO.out he
    obtain ⟨p0, p1, p2, p3, fz⟩ := four_cells hx
    obtain ⟨e0, e1, e2, e3, e4, e5, e6, e7, e8, e9⟩ := hE
    have hl : g.done < g.es.length := by omega
    have d0 : decide ((g.done : Int) < g.laid) = true := by simpa using hlt
    by_cases hr : e.bk = e.ws.length
    · have hB : endG size g l = (⟨g.es, g.laid, g.done + 1⟩, l ++ [stAcc (-1) 2 (((g.done + 1) % size : Nat) : Int) 0 (2 * ((g.done + 1 : Nat) : Int) + 1)]) := by simp [endG, hlt, he, hr]
      rw [hB]
      have d1 : ((e.bk : Int) == e.ws.length) = true := by rw [beq_iff_eq]; omega
      have htm : ((g.done : Int) + 1).tmod size = (((g.done + 1) % size : Nat) : Int) := tmod_nat (g.done + 1) size
      have hkk : ((g.done : Int) + 1) % size = (((g.done + 1) % size : Nat) : Int) := by simp
      have hk : (g.done + 1) % size < size := Nat.mod_lt _ hs1
      clear hx hw hset hi e1 e2 e3 e4 e5 e6 e7 e8
      go_enter Try.func32, Try.ntmps32
      go_wp2_with fail
      go_quiet (fail)
      have HO1 := Lib.hid (HO.out.below (MG.good _ _ _ _ _ _) (below_drewN (Below.refl w.heap.size w) nq))
      clear p0 p1 p2 p3 fz e0 e9 gz HO
      generalize w.drewN nq = w1 at *
      obtain ⟨la, lc, hx⟩ := MG.rd HO1.out
      obtain ⟨p0, p1, p2, p3, fz⟩ := four_cells hx
      clear hx
      go_wp2_with fail
      have HS : Hid (Stp w (w1.setCell ⟨x, 3, none⟩ (.int .i64 ((g.done : Int) + 1))) F (MG p x size cells l ⟨g.es, g.laid, g.done + 1⟩)) := MG.done HO1.out (g.done + 1)
      clear p0 p1 p2 p3 fz HO1
      generalize w1.setCell ⟨x, 3, none⟩ (.int .i64 ((g.done : Int) + 1)) = w2 at *
      obtain ⟨la, lc, hx⟩ := MG.rd HS.out
      obtain ⟨p0, p1, p2, p3, fz⟩ := four_cells hx
      have p3' : w2.cell? ⟨x, 3, none⟩ = some (.int .i64 ((g.done : Int) + 1)) := p3
      clear hx p3
      have hk0 : 0 ≤ ((g.done : Int) + 1) % size := by rw [hkk]; omega
      have hk1 : ((g.done : Int) + 1) % size < size := by rw [hkk]; omega
      rw [← hkk] at htm
      have HST := Lib.hid (Stp.lift (Lifts.left (GrowH.good x size ⟨g.es, g.laid, g.done + 1⟩) (store_in p size cells l (by omega) (-1) 2 (((g.done : Int) + 1) % size) 0 (2 * ((g.done : Int) + 1) + 1) (.inr (.inl ⟨rfl, ⟨hk0, hk1⟩, rfl⟩)))) (HS.out.drew (MG.good _ _ _ _ _ _)))
      have HKK := Lib.hid hkk
      clear hkk hk hk0 hk1 HS
      have hz0 : ¬ size = 0 := by omega
      go_still_tail 17, (by kernel_rfl)
      change wpList _ _ _ _ _ w2.drew
      go_wp2_with fail
      refine HST.out.mono ?_; rintro e' w4 ⟨rfl, h⟩
      rw [HKK.out] at h
      have H4 := Lib.hid h
      clear h HST
      go_wp2_with fail
      refine bodyPost_end (results_none rfl _ _ _) rfl ?_
      exact ⟨rfl, H4.out⟩
    · have hB : endG size g l = (g, l) := by simp [endG, hlt, he, hr]
      rw [hB]
      have d1 : ((e.bk : Int) == e.ws.length) = false := by rw [beq_eq_false_iff_ne]; omega
      clear hx hw hset hi e1 e2 e3 e4 e5 e6 e7 e8
      go_enter Try.func32, Try.ntmps32
      go_wp2_with fail
      go_quiet (fail)
      go_wp2_with fail
      refine bodyPost_end (results_none rfl _ _ _) rfl ?_
      exact ⟨rfl, HO.out.below (MG.good _ _ _ _ _ _) (below_drewN (Below.refl _ _) _)⟩
  · have hB : endG size g l = (g, l) := by simp [endG, hlt]
    rw [hB]
    obtain ⟨la, lc, hx⟩ := MG.rd HO.out
    obtain ⟨p0, p1, p2, p3, fz⟩ := four_cells hx
    have d0 : decide ((g.done : Int) < g.laid) = false := by simpa using hlt
    clear hx hi
    go_enter Try.func32, Try.ntmps32
    go_wp2_with fail
    go_quiet (fail)
    go_wp2_with fail
    refine bodyPost_end (results_none rfl _ _ _) rfl ?_
    exact ⟨rfl, HO.out.below (MG.good _ _ _ _ _ _) (below_drewN (Below.refl _ _) _)⟩
end Go.Proofs.Ytecbnialcnplkaa
