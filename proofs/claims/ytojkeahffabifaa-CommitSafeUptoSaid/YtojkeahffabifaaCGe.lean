/- The ring that grows: an entry is published. -/
import Derived.Test.YtojkeahffabifaaCGs
import Derived.Test.YtojkeahffabifaaC3d
import Derived.Test.YtojkeahffabifaaCGb
namespace Go.Proofs.Ytojkeahffabifaa
open Go.RowKit
set_option linter.unusedVariables false
def sig8w (w : World) (b : Nat) (s : Nat → Int) : World := (((((((w.setCell ⟨b, 1, none⟩ (.int .u64 (s 0))).setCell ⟨b, 2, none⟩ (.int .u64 (s 1))).setCell ⟨b, 3, none⟩ (.int .u64 (s 2))).setCell ⟨b, 4, none⟩ (.int .u64 (s 3))).setCell ⟨b, 5, none⟩ (.int .u64 (s 4))).setCell ⟨b, 6, none⟩ (.int .u64 (s 5))).setCell ⟨b, 7, none⟩ (.int .u64 (s 6))).setCell ⟨b, 8, none⟩ (.int .u64 (s 7))
theorem sig8w_heap {w : World} {b : Nat} {v : Value} {e : Ent} {T : TypeId} (h : w.heap[b]? = some (.cells (entCell (v, e)).toArray T)) (s : Nat → Int) : (sig8w w b s).heap[b]? = some (.cells (entCell (v, ⟨e.ws, s, e.bk⟩)).toArray T) := by
  unfold sig8w
  refine (heapSet_eq _ _ _ _ _ _ _ (heapSet_eq _ _ _ _ _ _ _ (heapSet_eq _ _ _ _ _ _ _ (heapSet_eq _ _ _ _ _ _ _ (heapSet_eq _ _ _ _ _ _ _ (heapSet_eq _ _ _ _ _ _ _ (heapSet_eq _ _ _ _ _ _ _ (heapSet_eq _ _ _ _ _ _ _ h)))))))).trans ?_
  simp [entCell]
theorem sig8w_below {B : Nat} {w0 w : World} (h : Below B w0 w) (b : Nat) (hb : B ≤ b) (s : Nat → Int) : Below B w0 (sig8w w b s) :=
  (((((((h.setCell hb _).setCell hb _).setCell hb _).setCell hb _).setCell hb _).setCell hb _).setCell hb _).setCell hb _
theorem ten_at (w : World) (v : Value) (e : Ent) (T : TypeId) (b : Nat) (hb : b = w.heap.size) : ∀ j u, (entCell (v, e))[j]? = some u → (w.alloc (.cells (entCell (v, e)).toArray T)).cell? ((⟨b, 0, none⟩ : Addr).add j) = some u := by
  subst hb
  intro j u h
  have hh : (w.alloc (.cells (entCell (v, e)).toArray T)).heap[w.heap.size]? = some (.cells (entCell (v, e)).toArray T) := heapAlloc _ _
  have e1 : (⟨w.heap.size, 0, none⟩ : Addr).add j = ⟨w.heap.size, j, none⟩ := by simp [Addr.add]; omega
  rw [e1]
  unfold World.cell?
  simp only [hh]
  simpa using h
theorem ent_one (a : Option Addr) (n c : Nat) (e : Ent) : ∀ u ∈ entCell (.slice a n c, e), u.oneCell' = true := by
  intro u hu
  simp [entCell] at hu
  rcases hu with rfl | rfl | rfl | rfl | rfl | rfl | rfl | rfl | rfl | rfl <;> rfl
/-- The ring's list has grown. -/
theorem grow_pub {w0 wr w2 : World} {F : Nat → Prop} {p size : Nat} {g : GS} (hO : GrowH p size g w0 F) (hb : Below w0.heap.size w0 wr) {v : Value} {e : Ent} {la : Option Addr} {lc : Nat} {lv' : Value} {ps : List (Value × Ent)}
    (hps : ps.map Prod.snd = g.es) (hq : ∀ q ∈ ps, w0.ownsRow 0 97 2 q.1 q.2.ws.length (wrCells q.2.ws) ∧ ∀ b, q.1.ownBlock = some b → F b ∧ b ≠ p ∧ (Value.slice la ps.length lc).ownBlock ≠ some b) (hp : w0.heap[p]? = some (.cells #[.int .i64 size, .slice la ps.length lc, .int .i64 g.laid, .int .i64 g.done] 35))
    (hlp : (Value.slice la ps.length lc).ownBlock ≠ some p) (hFp : F p) (hFl : ∀ b, (Value.slice la ps.length lc).ownBlock = some b → F b) (hFlt : ∀ b, F b → b < w0.heap.size)
    (ho : w2.ownsRow 0 94 10 lv' (ps.length + 1) (entCells ps ++ entCell (v, e))) (hc : Chg (fun b => (Value.slice la ps.length lc).ownBlock = some b) wr w2) (hw : lv'.ownBlock = (Value.slice la ps.length lc).ownBlock ∨ ∃ b, lv'.ownBlock = some b ∧ wr.heap.size ≤ b)
    (hv : wr.ownsRow w0.heap.size 97 2 v e.ws.length (wrCells e.ws)) : Stp w0 (w2.setCell ⟨p, 1, none⟩ lv') F (GrowH p size ⟨g.es ++ [e], g.laid, g.done⟩) := by
  have hz := hb.size
  have hpl := hFlt p hFp
  have hz2 := hc.size
  have hlp' : lv'.ownBlock ≠ some p := by
    rcases hw with h | ⟨b, h, hb'⟩
    · rw [h]; exact hlp
    · rw [h]; intro e; simp at e; omega
  have hC : Chg F w0 w2 := (Chg.calm F hb).trans hc (fun _ h => h) (fun b _ h => hFl b h)
  have hp2 : w2.heap[p]? = some (.cells #[.int .i64 size, .slice la ps.length lc, .int .i64 g.laid, .int .i64 g.done] 35) := (hc.block p (by omega) hlp).trans ((hb.block p hpl).trans hp)
  have hvb : ∀ b, v.ownBlock = some b → w0.heap.size ≤ b ∧ b < wr.heap.size := fun b h => hv.lt b h
  refine ⟨fun b => F b ∨ lv'.ownBlock = some b ∨ v.ownBlock = some b, ⟨lv', ps ++ [(v, e)], by simp [hps], (heapSet_eq _ _ _ _ _ _ _ hp2).trans (by simp), ?_, hlp', .inl hFp, fun b h => .inr (.inl h), ?_, ?_⟩, hC.set _ _ (.inr hFp), ?_⟩
  · have e1 : entCells (ps ++ [(v, e)]) = entCells ps ++ entCell (v, e) := by simp [entCells]
    rw [e1, List.length_append]
    exact own_chg ho (Chg.setCell _ _ _) (fun b hb (e : b = p) => hlp' (by rw [hb, e]))
  · intro q hq'
    rcases List.mem_append.1 hq' with h | h
    · obtain ⟨k1, k2⟩ := hq q h
      refine ⟨own_chg (own_chg (own_calm k1 hb) hc (fun b hb' e => (k2 b hb').2.2 e)) (Chg.setCell _ _ _) (fun b hb' (e : b = p) => (k2 b hb').2.1 e), fun b hb' => ⟨.inl (k2 b hb').1, (k2 b hb').2.1, ?_⟩⟩
      rcases hw with hw | ⟨b', hw, hb2⟩
      · rw [hw]; exact (k2 b hb').2.2
      · rw [hw]; intro e; simp at e
        have := hFlt b (k2 b hb').1
        omega
    · simp at h
      subst h
      have hv0 : wr.ownsRow 0 97 2 v e.ws.length (wrCells e.ws) := own_base hv (fun _ _ => Nat.zero_le _)
      refine ⟨own_chg (own_chg hv0 hc (fun b hb' e => ?_)) (Chg.setCell _ _ _) (fun b hb' (e : b = p) => ?_), fun b hb' => ⟨.inr (.inr hb'), ?_, ?_⟩⟩
      · have := hvb b hb'
        have := hFlt b (hFl b e)
        omega
      · have := hvb b hb'; omega
      · have := hvb b hb'; omega
      · have h1 := hvb b hb'
        rcases hw with hw | ⟨b', hw, hb2⟩
        · rw [hw]; intro e
          have := hFlt b (hFl b e)
          omega
        · rw [hw]; intro e; simp at e; omega
  · intro b h
    show b < (w2.setCell ⟨p, 1, none⟩ lv').heap.size
    rw [World.size_setCell]
    rcases h with h | h | h
    · have := hFlt b h; omega
    · exact (ho.lt b h).2
    · have := hvb b h; omega
  · intro b h
    rcases h with h | h | h
    · exact .inl h
    · rcases hw with hw | ⟨b', hw, hb2⟩
      · exact .inl (hFl b (hw ▸ h))
      · rw [hw] at h; simp at h; right; omega
    · right; exact (hvb b h).1
end Go.Proofs.Ytojkeahffabifaa
namespace Go.Proofs.Ytojkeahffabifaa
open Go.RowKit
set_option linter.unusedVariables false
set_option maxHeartbeats 2000000 in
set_option maxRecDepth 100000 in
theorem end_any (p x size cells : Nat) (l : List Acc) (g : GS) (hi : GInv size cells g l) (hs1 : 1 ≤ size) (hs2 : size ≤ 16) (hlen : l.length ≤ 90000000000) :
    Lifts Try.prog 31 #[.pointer (some ⟨x, 0, none⟩), .pointer (some ⟨p, 0, none⟩)] (MG p x size cells l g) (MG p x size cells (endG size g l).2 (endG size g l).1) (.returned (.tuple #[])) := by
  have hbig := hi.big
  have hll := hi.ll
  have hdl := hi.dl
  intro w F hO
  have HO := Lib.hid (Stp.refl hO)
  clear hO
  by_cases hlt : g.done < g.laid
  · obtain ⟨e, he⟩ : ∃ e, g.es[g.done]? = some e := ⟨_, List.getElem?_eq_getElem (by omega)⟩
    obtain ⟨gb, lc, va, vc, hx, hE, gz, hw, hset⟩ := MG.at HO.out he
    obtain ⟨p0, p1, p2, p3, fz⟩ := four_cells hx
    obtain ⟨e0, e1, e2, e3, e4, e5, e6, e7, e8, e9⟩ := hE
    have hl : g.done < g.es.length := by omega
    have d0 : decide ((g.done : Int) < g.laid) = true := by simpa using hlt
    by_cases hr : e.bk = e.ws.length
    · have hB : endG size g l = (⟨g.es, g.laid, g.done + 1⟩, l ++ [stAcc (-1) 2 (((g.done + 1) % size : Nat) : Int) 0 (2 * ((g.done + 1 : Nat) : Int) + 1)]) := by simp [endG, hlt, he, hr]
      rw [hB]
      have d1 : ((e.bk : Int) == e.ws.length) = true := by rw [beq_iff_eq]; omega
      have htm : ((g.done : Int) + 1).tmod size = (((g.done + 1) % size : Nat) : Int) := tmod_nat (g.done + 1) size
      have hkk : ((g.done : Int) + 1) % size = (((g.done + 1) % size : Nat) : Int) := by simp
      have hk : (g.done + 1) % size < size := Nat.mod_lt _ hs1
      clear hx hw hset hi e1 e2 e3 e4 e5 e6 e7 e8
      go_enter Try.func31, Try.ntmps31
      go_wp2_with fail
      go_quiet (fail)
      have HO1 := Lib.hid (HO.out.below (MG.good _ _ _ _ _ _) (below_drewN (Below.refl w.heap.size w) nq))
      clear p0 p1 p2 p3 fz e0 e9 gz HO
      generalize w.drewN nq = w1 at *
      obtain ⟨la, lc, hx⟩ := MG.rd HO1.out
      obtain ⟨p0, p1, p2, p3, fz⟩ := four_cells hx
      clear hx
      go_wp2_with fail
      have HS : Hid (Stp w (w1.setCell ⟨x, 3, none⟩ (.int .i64 ((g.done : Int) + 1))) F (MG p x size cells l ⟨g.es, g.laid, g.done + 1⟩)) := MG.done HO1.out (g.done + 1)
      clear p0 p1 p2 p3 fz HO1
      generalize w1.setCell ⟨x, 3, none⟩ (.int .i64 ((g.done : Int) + 1)) = w2 at *
      obtain ⟨la, lc, hx⟩ := MG.rd HS.out
      obtain ⟨p0, p1, p2, p3, fz⟩ := four_cells hx
      have p3' : w2.cell? ⟨x, 3, none⟩ = some (.int .i64 ((g.done : Int) + 1)) := p3
      clear hx p3
      have hk0 : 0 ≤ ((g.done : Int) + 1) % size := by rw [hkk]; omega
      have hk1 : ((g.done : Int) + 1) % size < size := by rw [hkk]; omega
      rw [← hkk] at htm
      have HST := Lib.hid (Stp.lift (Lifts.left (GrowH.good x size ⟨g.es, g.laid, g.done + 1⟩) (store_in p size cells l (by omega) (-1) 2 (((g.done : Int) + 1) % size) 0 (2 * ((g.done : Int) + 1) + 1) (.inr (.inl ⟨rfl, ⟨hk0, hk1⟩, rfl⟩)))) (HS.out.drew (MG.good _ _ _ _ _ _)))
      have HKK := Lib.hid hkk
      clear hkk hk hk0 hk1 HS
      have hz0 : ¬ size = 0 := by omega
      go_still_tail 17, (by kernel_rfl)
      change wpList _ _ _ _ _ w2.drew
      go_wp2_with fail
      refine HST.out.mono ?_; rintro e' w4 ⟨rfl, h⟩
      rw [HKK.out] at h
      have H4 := Lib.hid h
      clear h HST
      go_wp2_with fail
      refine bodyPost_end (results_none rfl _ _ _) rfl ?_
      exact ⟨rfl, H4.out⟩
    · have hB : endG size g l = (g, l) := by simp [endG, hlt, he, hr]
      rw [hB]
      have d1 : ((e.bk : Int) == e.ws.length) = false := by rw [beq_eq_false_iff_ne]; omega
      clear hx hw hset hi e1 e2 e3 e4 e5 e6 e7 e8
      go_enter Try.func31, Try.ntmps31
      go_wp2_with fail
      go_quiet (fail)
      go_wp2_with fail
      refine bodyPost_end (results_none rfl _ _ _) rfl ?_
      exact ⟨rfl, HO.out.below (MG.good _ _ _ _ _ _) (below_drewN (Below.refl _ _) _)⟩
  · have hB : endG size g l = (g, l) := by simp [endG, hlt]
    rw [hB]
    obtain ⟨la, lc, hx⟩ := MG.rd HO.out
    obtain ⟨p0, p1, p2, p3, fz⟩ := four_cells hx
    have d0 : decide ((g.done : Int) < g.laid) = false := by simpa using hlt
    clear hx hi
    go_enter Try.func31, Try.ntmps31
    go_wp2_with fail
    go_quiet (fail)
    go_wp2_with fail
    refine bodyPost_end (results_none rfl _ _ _) rfl ?_
    exact ⟨rfl, HO.out.below (MG.good _ _ _ _ _ _) (below_drewN (Below.refl _ _) _)⟩
end Go.Proofs.Ytojkeahffabifaa
