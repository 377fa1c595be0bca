/- The ring that grows: back, end. -/
import Derived.Test.YtojkeahffabifaaCGb
namespace Go.Proofs.Ytojkeahffabifaa
open Go.RowKit
set_option linter.unusedVariables false
set_option maxHeartbeats 2000000 in
set_option maxRecDepth 100000 in
theorem back_any (p x size cells : Nat) (l : List Acc) (g : GS) (hi : GInv size cells g l) (hs1 : 1 ≤ size) (hs2 : size ≤ 16) (hlen : l.length ≤ 90000000000) :
    Lifts Try.prog 30 #[.pointer (some ⟨x, 0, none⟩), .pointer (some ⟨p, 0, none⟩)] (MG p x size cells l g) (MG p x size cells (backG g l).2 (backG g l).1) (.returned (.tuple #[])) := by
  have hbig := hi.big
  have hll := hi.ll
  have hdl := hi.dl
  intro w F hO
  have HO := Lib.hid (Stp.refl hO)
  clear hO
  by_cases hlt : g.done < g.laid
  · skip
    obtain ⟨e, he⟩ : ∃ e, g.es[g.done]? = some e := ⟨_, List.getElem?_eq_getElem (by omega)⟩
    obtain ⟨hi1, hi2, _, _, hi5⟩ := hi.ent _ e he
    obtain ⟨gb, lc, va, vc, hx, hE, gz, hw, hset⟩ := MG.at HO.out he
    obtain ⟨p0, p1, p2, p3, fz⟩ := four_cells hx
    obtain ⟨e0, e1, e2, e3, e4, e5, e6, e7, e8, e9⟩ := hE
    have hl : g.done < g.es.length := by omega
    have d0 : decide ((g.done : Int) < g.laid) = true := by simpa using hlt
    cases hr : e.ws[e.bk]? with
    | none =>
      have hB : backG g l = (g, l) := by simp [backG, hlt, he, hr]
      rw [hB]
      have hn : e.ws.length ≤ e.bk := List.getElem?_eq_none_iff.1 hr
      have d1 : decide ((e.bk : Int) < e.ws.length) = false := by simpa using hn
      clear hx hw hset hi e1 e2 e3 e4 e5 e6 e7 e8
      go_enter Try.func30, Try.ntmps30
      go_wp2_with fail
      go_quiet (fail)
      go_wp2_with fail
      refine bodyPost_end (results_none rfl _ _ _) rfl ?_
      exact ⟨rfl, HO.out.below (MG.good _ _ _ _ _ _) (below_drewN (Below.refl _ _) _)⟩
    | some r =>
      have hB : backG g l = (⟨g.es.set g.done ⟨e.ws, e.sg, e.bk + 1⟩, g.laid, g.done⟩, l ++ [stAcc (-1) 4 r.1 0 r.2]) := by simp [backG, hlt, he, hr]
      rw [hB]
      have hrl : e.bk < e.ws.length := (List.getElem?_eq_some_iff.1 hr).1
      have d1 : decide ((e.bk : Int) < e.ws.length) = true := by simpa using hrl
      have hrr := hi5 r (List.mem_of_getElem? hr)
      clear hx hw hset hi e1 e2 e3 e4 e5 e6 e7 e8
      go_enter Try.func30, Try.ntmps30
      go_wp2_with fail
      go_quiet (fail)
      have HO1 := Lib.hid (HO.out.below (MG.good _ _ _ _ _ _) (below_drewN (Below.refl w.heap.size w) nq))
      clear p0 p1 p2 p3 fz e0 e9 gz HO
      generalize w.drewN nq = w1 at *
      go_wp2_with fail
      obtain ⟨gb, lc, va, vc, hx, hE, gz, hw, hset⟩ := MG.at HO1.out he
      obtain ⟨wb, wc, hv, hwl, v0, v1, vz⟩ := wr_at hw hr
      obtain ⟨rfl, rfl⟩ : va = some ⟨wb, 0, none⟩ ∧ vc = wc := by simpa using hv
      obtain ⟨p0, p1, p2, p3, fz⟩ := four_cells hx
      obtain ⟨e0, e1, e2, e3, e4, e5, e6, e7, e8, e9⟩ := hE
      have hxl := heap_lt hx
      have hgl : gb < w1.heap.size := World.block_lt_of_cell? w1 _ e0
      clear hx hw hv hset e1 e2 e3 e4 e5 e6 e7 e8
      go_region
      go_wp2_with fail
      have HST := Lib.hid (Stp.lift (Lifts.left (BlkH.good w1.heap.size #[.int .i64 r.1, .int .i64 r.2] 97) (Lifts.left (GrowH.good x size g) (store_in p size cells l (by omega) (-1) 4 r.1 0 r.2 (.inr (.inr (.inr ⟨rfl, hrr.1, rfl⟩)))))) ((HO1.out.box (MG.good _ _ _ _ _ _) #[.int .i64 r.1, .int .i64 r.2] 97).drew ((MG.good _ _ _ _ _ _).star (BlkH.good _ _ _))))
      clear p0 p1 p2 p3 fz e0 e9 gz v0 v1 vz hxl hgl hwl HO1
      refine HST.out.mono ?_; rintro e' w4 ⟨rfl, h⟩
      have H4 : Hid (Stp w w4 F (MG p x size cells (l ++ [stAcc (-1) 4 r.1 0 r.2]) g)) := h.fst
      clear h HST
      obtain ⟨gb, lc, va, vc, hx, hE, gz, hw, hset⟩ := MG.at H4.out he
      obtain ⟨p0, p1, p2, p3, fz⟩ := four_cells hx
      obtain ⟨e0, e1, e2, e3, e4, e5, e6, e7, e8, e9⟩ := hE
      have hbk : (e.bk : Int) < 9223372036854775807 := by
        rcases hw.2 with ⟨h1, h2⟩ | ⟨_, cap, _, _, _, _, hnc, hcm, _⟩
        · simp at h1; omega
        · unfold maxLen at hcm; omega
      have HSET := Lib.hid ((hset (e.bk + 1)).drew (MG.good _ _ _ _ _ _))
      clear hx hw hset e0 e1 e2 e3 e4 e5 e6 e7 e8
      go_wp2_with fail
      go_still_tail 22, (by kernel_rfl)
      change wpList _ _ _ _ _ w4.drew
      go_wp2_with fail
      refine bodyPost_end (results_none rfl _ _ _) rfl ?_
      exact ⟨rfl, HSET.out⟩
  · have hB : backG g l = (g, l) := by simp [backG, hlt]
    rw [hB]
    obtain ⟨la, lc, hx⟩ := MG.rd HO.out
    obtain ⟨p0, p1, p2, p3, fz⟩ := four_cells hx
    have d0 : decide ((g.done : Int) < g.laid) = false := by simpa using hlt
    clear hx hi
    go_enter Try.func30, Try.ntmps30
    go_wp2_with fail
    go_quiet (fail)
    go_wp2_with fail
    refine bodyPost_end (results_none rfl _ _ _) rfl ?_
    exact ⟨rfl, HO.out.below (MG.good _ _ _ _ _ _) (below_drewN (Below.refl _ _) _)⟩
end Go.Proofs.Ytojkeahffabifaa
