/- The ring that grows: lay, back, end. -/
import Derived.Test.YtojkeahffabifaaCG
import Derived.StillTailTactics
namespace Go.Proofs.Ytojkeahffabifaa
open Go.RowKit
set_option linter.unusedVariables false
/-- What the walk reads of the ring, and how it is written. -/
structure GrowR (w : World) (F : Nat → Prop) (p size : Nat) (g : GS) (lv : Value) : Prop where
  hp : w.heap[p]? = some (.cells #[.int .i64 size, lv, .int .i64 g.laid, .int .i64 g.done] 35)
  laid : ∀ n : Nat, Stp w (w.setCell ⟨p, 2, none⟩ (.int .i64 n)) F (GrowH p size ⟨g.es, n, g.done⟩)
  done : ∀ n : Nat, Stp w (w.setCell ⟨p, 3, none⟩ (.int .i64 n)) F (GrowH p size ⟨g.es, g.laid, n⟩)
theorem GrowH.read {p size : Nat} {g : GS} {w : World} {F : Nat → Prop} (h : GrowH p size g w F) : ∃ la lc, GrowR w F p size g (.slice la g.es.length lc) := by
  obtain ⟨lv, ps, h1, h2, h3, h4, h5, h6, h7, h8⟩ := h
  obtain ⟨la, lc, rfl⟩ := ownAt_form h3
  have hlen : ps.length = g.es.length := by rw [← h1, List.length_map]
  rw [hlen] at h2 h3 h4 h6 h7
  have key : ∀ (i : Nat) (v : Value) (g' : GS), g'.es = g.es → (w.setCell ⟨p, i, none⟩ v).heap[p]? = some (.cells #[.int .i64 size, .slice la g.es.length lc, .int .i64 g'.laid, .int .i64 g'.done] 35) → Stp w (w.setCell ⟨p, i, none⟩ v) F (GrowH p size g') := by
    intro i v g' he hh
    refine ⟨F, ⟨.slice la g.es.length lc, ps, by rw [he]; exact h1, hh, ?_, h4, h5, h6, fun q hq => ⟨own_chg (h7 q hq).1 (Chg.setCell _ _ _) (fun b hb (e : b = p) => ((h7 q hq).2 b hb).2.1 e), (h7 q hq).2⟩, fun b hb => by simpa using h8 b hb⟩, (Chg.refl F w).set _ _ (.inr h5), fun b hb => .inl hb⟩
    rw [hlen]
    exact own_chg h3 (Chg.setCell _ _ _) (fun b hb (e : b = p) => h4 (by rw [hb, e]))
  refine ⟨la, lc, h2, fun n => key 2 _ ⟨g.es, n, g.done⟩ rfl ((heapSet_eq _ _ _ _ _ _ _ h2).trans (by simp)), fun n => key 3 _ ⟨g.es, g.laid, n⟩ rfl ((heapSet_eq _ _ _ _ _ _ _ h2).trans (by simp))⟩
/-- What stands at an entry of the ring, and how its count is written. -/
theorem GrowH.at {p size : Nat} {g : GS} {w : World} {F : Nat → Prop} (h : GrowH p size g w F) {i : Nat} {e : Ent} (he : g.es[i]? = some e) : ∃ gb lc va vc, GrowR w F p size g (.slice (some ⟨gb, 0, none⟩) g.es.length lc) ∧ EntR w gb i (.slice va e.ws.length vc) e ∧ (∀ o, w.frozen? ⟨gb, o, none⟩ = false) ∧ w.ownsRow 0 97 2 (.slice va e.ws.length vc) e.ws.length (wrCells e.ws) ∧
    ∀ bk : Nat, Stp w (w.setCell ⟨gb, i * 10 + 9, none⟩ (.int .i64 bk)) F (GrowH p size ⟨g.es.set i ⟨e.ws, e.sg, bk⟩, g.laid, g.done⟩) := by
  obtain ⟨la, lc, hR⟩ := h.read
  obtain ⟨lv, ps, h1, h2, h3, h4, h5, h6, h7, h8⟩ := h
  have hlen : ps.length = g.es.length := by rw [← h1, List.length_map]
  obtain ⟨⟨v, e'⟩, hq, hqe⟩ : ∃ q, ps[i]? = some q ∧ q.2 = e := by
    rw [← h1, List.getElem?_map] at he
    obtain ⟨q, k1, k2⟩ := Option.map_eq_some_iff.1 he
    exact ⟨q, k1, k2⟩
  obtain rfl : e' = e := hqe
  have hlv : lv = .slice la g.es.length lc := by
    have := hR.hp
    rw [h2] at this
    simp at this
    exact this
  obtain ⟨gb, c, e1, e2, e3, e4, e5⟩ := ent_at h3 hq
  obtain ⟨hw1, hw2⟩ := h7 _ (List.mem_of_getElem? hq)
  obtain ⟨va, vc, hv⟩ := ownAt_form hw1
  have hv : v = .slice va e'.ws.length vc := hv
  subst hv
  have e1' := e1
  rw [hlv] at e1'
  simp only [Value.slice.injEq] at e1'
  obtain ⟨rfl, _, rfl⟩ := e1'
  rw [hlv] at e1
  have hpg : p ≠ gb := by
    intro hh
    exact h4 (by rw [hlv, hh]; rfl)
  refine ⟨gb, lc, va, vc, hR, e3, e4, hw1, fun bk => ⟨F, ⟨lv, ps.set i (.slice va e'.ws.length vc, ⟨e'.ws, e'.sg, bk⟩), ?_, (heapSet_ne _ _ _ _ hpg).trans h2, ?_, h4, h5, h6, fun q hq' => ?_, fun b hb => by simpa using h8 b hb⟩, (Chg.refl F w).set _ _ (.inr (h6 gb (by rw [hlv]; rfl))), fun b hb => .inl hb⟩⟩
  · rw [List.map_set, h1]
  · rw [List.length_set]; exact e5 bk
  · have hne : ∀ q : Value × Ent, (∃ x ∈ ps, q.1 = x.1 ∧ q.2.ws = x.2.ws) → (w.setCell ⟨gb, i * 10 + 9, none⟩ (.int .i64 bk)).ownsRow 0 97 2 q.1 q.2.ws.length (wrCells q.2.ws) ∧ ∀ b, q.1.ownBlock = some b → F b ∧ b ≠ p ∧ lv.ownBlock ≠ some b := by
      rintro q ⟨x, hx, k1, k2⟩
      rw [k1, k2]
      exact ⟨own_chg (h7 x hx).1 (Chg.setCell _ _ _) (fun b hb (e : b = gb) => ((h7 x hx).2 b hb).2.2 (by rw [hlv, e]; rfl)), (h7 x hx).2⟩
    rcases List.mem_or_eq_of_mem_set hq' with hm | hm
    · exact hne q ⟨q, hm, rfl, rfl⟩
    · exact hne q ⟨_, List.mem_of_getElem? hq, by rw [hm], by rw [hm]⟩
theorem ten_cells {w : World} {p : Nat} {v : Value} {e : Ent} {T : TypeId} (h : w.heap[p]? = some (.cells (entCell (v, e)).toArray T)) :
    w.cell? ⟨p, 0, none⟩ = some v ∧ (∀ j : Nat, j < 8 → w.cell? ⟨p, 1 + j, none⟩ = some (.int .u64 (e.sg j))) ∧ ∀ o, w.frozen? ⟨p, o, none⟩ = false := by
  refine ⟨by simp [World.cell?, h, entCell], fun j hj => ?_, fun o => by simp [World.frozen?, h]⟩
  match j, hj with
  | 0, _ => simp [World.cell?, h, entCell]
  | 1, _ => simp [World.cell?, h, entCell]
  | 2, _ => simp [World.cell?, h, entCell]
  | 3, _ => simp [World.cell?, h, entCell]
  | 4, _ => simp [World.cell?, h, entCell]
  | 5, _ => simp [World.cell?, h, entCell]
  | 6, _ => simp [World.cell?, h, entCell]
  | 7, _ => simp [World.cell?, h, entCell]
theorem tmod_nat (a b : Nat) : ((a : Int)).tmod b = ((a % b : Nat) : Int) := by
  rw [Int.tmod_eq_emod_of_nonneg (by omega)]; simp
set_option maxHeartbeats 2000000 in
set_option maxRecDepth 100000 in
theorem lay_any (p x size cells : Nat) (l : List Acc) (g : GS) (hi : GInv size cells g l) (hs1 : 1 ≤ size) (hs2 : size ≤ 16) (hlen : l.length ≤ 90000000000) :
    Lifts Try.prog 29 #[.pointer (some ⟨x, 0, none⟩), .pointer (some ⟨p, 0, none⟩)] (Star (MemH p size cells l) (GrowH x size g)) (Star (MemH p size cells (layG size g l).2) (GrowH x size (layG size g l).1)) (.returned (.tuple #[])) := by
  have hbig := hi.big
  have hll := hi.ll
  have hdl := hi.dl
  intro w F hO
  obtain ⟨FA, FB, hM, hG, hF, hd⟩ := id hO
  unfold layG
  cases he : g.es[g.laid]? with
  | none =>
    have hn : g.es.length ≤ g.laid := List.getElem?_eq_none_iff.1 he
    obtain ⟨la, lc, hR⟩ := hG.read
    obtain ⟨p0, p1, p2, p3, fz⟩ := four_cells hR.hp
    have e1 : ((g.laid : Int) == (g.es.length : Int)) = true := by rw [beq_iff_eq]; omega
    have HO := Lib.hid hO
    clear hO hM hG hR hi
    go_enter Try.func29, Try.ntmps29
    go_wp2_with fail
    go_quiet (fail)
    go_wp2_with fail
    refine bodyPost_ret (results_none rfl _ _ _) rfl ?_
    exact ⟨rfl, (Stp.refl HO.out).below ((MemH.good _ _ _ _).star (GrowH.good _ _ _)) (below_drewN (Below.refl _ _) _)⟩
  | some e =>
    have hl : g.laid < g.es.length := (List.getElem?_eq_some_iff.1 he).1
    obtain ⟨la, lc, hR⟩ := hG.read
    obtain ⟨p0, p1, p2, p3, fz⟩ := four_cells hR.hp
    have e10 : ((g.laid : Int) == (g.es.length : Int)) = false := by rw [beq_eq_false_iff_ne]; omega
    have HO := Lib.hid hO
    clear hO hM hG hR hi
    go_enter Try.func29, Try.ntmps29
    go_wp2_with fail
    go_quiet (fail)
    have HO1 := Lib.hid ((Stp.refl HO.out).below ((MemH.good _ _ _ _).star (GrowH.good _ _ _)) (below_drewN (Below.refl w.heap.size w) nq))
    clear p0 p1 p2 p3 fz
    generalize w.drewN nq = w1 at *
    obtain ⟨F1, ⟨FA1, FB1, hM, hG, hF1, hd1⟩, hc1, hn1⟩ := HO1.out
    obtain ⟨gb, lc, va, vc, hR, hE, gz, _, _⟩ := hG.at he
    obtain ⟨p0, p1, p2, p3, fz⟩ := four_cells hR.hp
    obtain ⟨e0, e1, e2, e3, e4, e5, e6, e7, e8, e9⟩ := hE
    have hxl := heap_lt hR.hp
    have hgl : gb < w1.heap.size := World.block_lt_of_cell? w1 _ e0
    clear hM hG hR hF1 hd1 hc1 hn1
    go_wp2_with fail
    go_region
    go_wp2_with fail
    obtain ⟨cs, hcs⟩ : ∃ cs, cs = (entCell (.slice va e.ws.length vc, e)).toArray := ⟨_, rfl⟩
    have HS : Hid (Stp w (((w1.setCell ⟨x, 2, none⟩ (.int .i64 ((g.laid : Int) + 1))).alloc (.cells #[.slice va e.ws.length vc, .int .u64 (e.sg 0), .int .u64 (e.sg 1), .int .u64 (e.sg 2), .int .u64 (e.sg 3), .int .u64 (e.sg 4), .int .u64 (e.sg 5), .int .u64 (e.sg 6), .int .u64 (e.sg 7), .int .i64 e.bk] 94)).drew) F (Star (Star (MemH p size cells l) (GrowH x size ⟨g.es, g.laid + 1, g.done⟩)) (BlkH w1.heap.size cs 94))) := by
      obtain ⟨F1, ⟨FA1, FB1, hM, hG, hF1, hd1⟩, hc1, hn1⟩ := HO1.out
      obtain ⟨la, lc, hR⟩ := hG.read
      have k := (Stp.comp hc1 hn1 ((hR.laid (g.laid + 1)).right (MemH.good p size cells l) hM hF1 hd1)).box ((MemH.good _ _ _ _).star (GrowH.good _ _ _)) (entCell (.slice va e.ws.length vc, e)).toArray 94
      rw [hcs]
      have k2 := k.drew (((MemH.good _ _ _ _).star (GrowH.good _ _ _)).star (BlkH.good _ _ _))
      simp at k2
      exact k2
    generalize (((w1.setCell ⟨x, 2, none⟩ (.int .i64 ((g.laid : Int) + 1))).alloc (.cells #[.slice va e.ws.length vc, .int .u64 (e.sg 0), .int .u64 (e.sg 1), .int .u64 (e.sg 2), .int .u64 (e.sg 3), .int .u64 (e.sg 4), .int .u64 (e.sg 5), .int .u64 (e.sg 6), .int .u64 (e.sg 7), .int .i64 e.bk] 94)).drew) = w2 at *
    clear p0 p1 p2 p3 fz e0 e1 e2 e3 e4 e5 e6 e7 e8 e9 gz hgl
    obtain ⟨FG, hG⟩ := HS.out.has.left.right
    obtain ⟨la2, lc2, hR⟩ := hG.read
    obtain ⟨p0, p1, p2, p3, fz⟩ := four_cells hR.hp
    have htm : ((g.laid : Int) + 1).tmod size = (((g.laid + 1) % size : Nat) : Int) := tmod_nat (g.laid + 1) size
    have hk : (g.laid + 1) % size < size := Nat.mod_lt _ hs1
    have p2' : w2.cell? ⟨x, 2, none⟩ = some (.int .i64 ((g.laid : Int) + 1)) := p2
    clear hG hR p2
    go_quiet (fail)
    have HS2 := Lib.hid (HS.out.below (((MemH.good _ _ _ _).star (GrowH.good _ _ _)).star (BlkH.good _ _ _)) (below_drewN (Below.refl w2.heap.size w2) nq))
    clear p0 p1 p2' p3 fz HS
    generalize w2.drewN nq = w3 at *
    go_wp2_with fail
    clear htm
    have hkk : ((g.laid : Int) + 1) % size = (((g.laid + 1) % size : Nat) : Int) := by simp
    generalize ((g.laid : Int) + 1) % size = kk at *
    have HKK := Lib.hid hkk
    have hk0 : 0 ≤ kk := by omega
    have hk1 : kk < size := by omega
    clear hkk hk
    go_loopw [6] (fun i wr => ∃ j : Nat, j ≤ 8 ∧ i = .int .i64 j ∧ Hid (Stp w wr F (Star (Star (MemH p size cells (l ++ sigSt kk e.sg j)) (GrowH x size ⟨g.es, g.laid + 1, g.done⟩)) (BlkH w1.heap.size cs 94)))) (fun i _ => 8 - (intOf i).toNat)
    case atStart =>
      refine ⟨0, by omega, rfl, ?_⟩
      have e : l ++ sigSt kk e.sg 0 = l := by simp [sigSt]
      rw [e]
      exact HS2.out
    case round =>
      obtain ⟨j, hj, rfl, HR2⟩ := hrel
      clear HS2
      by_cases hlt : j < 8
      · have hbx := HR2.out.has.right.blk
        rw [hcs] at hbx
        obtain ⟨_, cj, bz⟩ := ten_cells hbx
        have cj := cj j hlt
        have hj0 : (0 : Int) ≤ j := by omega
        have hj8 : (j : Int) < 8 := by omega
        have HST := Lib.hid (Stp.lift (Lifts.left (BlkH.good w1.heap.size cs 94) (Lifts.left (GrowH.good x size ⟨g.es, g.laid + 1, g.done⟩) (store_in p size cells (l ++ sigSt kk e.sg j) (by rw [List.length_append, sigSt_len]; omega) (-1) 3 kk j (wrap64 (e.sg j)) (.inr (.inr (.inl ⟨rfl, ⟨hk0, hk1⟩, hj0, hj8⟩)))))) HR2.out)
        have HE : Hid (l ++ sigSt kk e.sg (j + 1) = l ++ sigSt kk e.sg j ++ [stAcc (-1) 3 kk j (wrap64 (e.sg j))]) := by
          show _ = _
          simp [sigSt, List.range_succ]
        clear hbx HR2 bz
        go_wp2_with fail
        refine HST.out.mono ?_; rintro e' w4 ⟨rfl, h⟩
        rw [← HE.out] at h
        have H4 := Lib.hid h
        clear h HST HE cj
        go_wp2_with fail
        go_roundw
        case rel => exact ⟨j + 1, by omega, by go_num, H4.out⟩
        case measure => simp [intOf]; omega
      · obtain rfl : j = 8 := by omega
        obtain ⟨FG, hG⟩ := HR2.out.has.left.right
        obtain ⟨la3, lc3, hR⟩ := hG.read
        obtain ⟨p0, p1, p2, p3, fz⟩ := four_cells hR.hp
        have p2' : wr.cell? ⟨x, 2, none⟩ = some (.int .i64 ((g.laid : Int) + 1)) := p2
        have HST := Lib.hid (Stp.lift (Lifts.left (BlkH.good w1.heap.size cs 94) (Lifts.left (GrowH.good x size ⟨g.es, g.laid + 1, g.done⟩) (store_in p size cells (l ++ sigSt kk e.sg 8) (by rw [List.length_append, sigSt_len]; omega) (-1) 2 kk 0 (2 * ((g.laid : Int) + 1)) (.inr (.inl ⟨rfl, ⟨hk0, hk1⟩, rfl⟩))))) HR2.out)
        clear hG hR p2 HR2
        go_wp2_with fail
        refine HST.out.mono ?_; rintro e' w4 ⟨rfl, h⟩
        rw [HKK.out] at h
        have H4 := Lib.hid h.fst
        clear h HST
        go_wp2_with fail
        refine bodyPost_end (results_none rfl _ _ _) rfl ?_
        exact ⟨rfl, H4.out⟩
abbrev MG (p x size cells : Nat) (l : List Acc) (g : GS) : HP := Star (MemH p size cells l) (GrowH x size g)
theorem MG.good (p x size cells : Nat) (l : List Acc) (g : GS) : Good (MG p x size cells l g) := (MemH.good _ _ _ _).star (GrowH.good _ _ _)
/-- An entry of the ring that lies beside a memory: what is read of it, how its count is written. -/
theorem MG.at {p x size cells : Nat} {l : List Acc} {g : GS} {w w1 : World} {F : Nat → Prop} (h : Stp w w1 F (MG p x size cells l g)) {i : Nat} {e : Ent} (he : g.es[i]? = some e) :
    ∃ gb lc va vc, w1.heap[x]? = some (.cells #[.int .i64 size, .slice (some ⟨gb, 0, none⟩) g.es.length lc, .int .i64 g.laid, .int .i64 g.done] 35) ∧ EntR w1 gb i (.slice va e.ws.length vc) e ∧ (∀ o, w1.frozen? ⟨gb, o, none⟩ = false) ∧ w1.ownsRow 0 97 2 (.slice va e.ws.length vc) e.ws.length (wrCells e.ws) ∧
    ∀ bk : Nat, Stp w (w1.setCell ⟨gb, i * 10 + 9, none⟩ (.int .i64 bk)) F (MG p x size cells l ⟨g.es.set i ⟨e.ws, e.sg, bk⟩, g.laid, g.done⟩) := by
  obtain ⟨F1, ⟨FA, FB, hM, hG, hF, hd⟩, hc, hn⟩ := h
  obtain ⟨gb, lc, va, vc, hR, hE, hz, hw, hs⟩ := hG.at he
  exact ⟨gb, lc, va, vc, hR.hp, hE, hz, hw, fun bk => Stp.comp hc hn ((hs bk).right (MemH.good p size cells l) hM hF hd)⟩
theorem MG.done {p x size cells : Nat} {l : List Acc} {g : GS} {w w1 : World} {F : Nat → Prop} (h : Stp w w1 F (MG p x size cells l g)) (n : Nat) : Stp w (w1.setCell ⟨x, 3, none⟩ (.int .i64 n)) F (MG p x size cells l ⟨g.es, g.laid, n⟩) := by
  obtain ⟨F1, ⟨FA, FB, hM, hG, hF, hd⟩, hc, hn⟩ := h
  obtain ⟨la, lc, hR⟩ := hG.read
  exact Stp.comp hc hn ((hR.done n).right (MemH.good p size cells l) hM hF hd)
theorem MG.rd {p x size cells : Nat} {l : List Acc} {g : GS} {w w1 : World} {F : Nat → Prop} (h : Stp w w1 F (MG p x size cells l g)) : ∃ la lc, w1.heap[x]? = some (.cells #[.int .i64 size, .slice la g.es.length lc, .int .i64 g.laid, .int .i64 g.done] 35) := by
  obtain ⟨FG, hG⟩ := h.has.right
  obtain ⟨la, lc, hR⟩ := hG.read
  exact ⟨la, lc, hR.hp⟩
end Go.Proofs.Ytojkeahffabifaa
