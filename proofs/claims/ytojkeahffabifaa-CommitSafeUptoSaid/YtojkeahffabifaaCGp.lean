/- The ring that grows: Act. -/
import Derived.Test.YtojkeahffabifaaCGe
import Derived.Test.YtojkeahffabifaaCGc
namespace Go.Proofs.Ytojkeahffabifaa
open Go.RowKit
set_option linter.unusedVariables false
/-- The walk's answer. -/
def ActTo (w : World) (F : Nat → Prop) (O : HP) (e : Ending) (w' : World) : Prop := e = .returned (.tuple #[]) ∧ Stp w w' F O
theorem sigW_succ {ws : List (Int × Int)} {j : Nat} {r : Int × Int} (h : ws[j]? = some r) : sigW (ws.take (j + 1)) = withS (sigW (ws.take j)) r.1 := by
  obtain ⟨hl, rfl⟩ := List.getElem?_eq_some_iff.1 h
  unfold sigW
  rw [List.take_succ_eq_append_getElem hl, List.foldl_append]
  rfl
theorem sig8w_own {B T : Nat} {n sz : Nat} {v : Value} {xs : List Value} {w : World} (h : w.ownsRow B T sz v n xs) (b : Nat) (hne : ∀ b', v.ownBlock = some b' → b' ≠ b) (s : Nat → Int) : (sig8w w b s).ownsRow B T sz v n xs :=
  own_chg (own_chg (own_chg (own_chg (own_chg (own_chg (own_chg (own_chg h (Chg.setCell _ _ _) hne) (Chg.setCell _ _ _) hne) (Chg.setCell _ _ _) hne) (Chg.setCell _ _ _) hne) (Chg.setCell _ _ _) hne) (Chg.setCell _ _ _) hne) (Chg.setCell _ _ _) hne) (Chg.setCell _ _ _) hne
theorem sig8w_size (w : World) (b : Nat) (s : Nat → Int) : (sig8w w b s).heap.size = w.heap.size := by
  unfold sig8w
  simp only [World.size_setCell]
set_option maxHeartbeats 2000000 in
set_option maxRecDepth 100000 in
theorem act_pub (p x size cells : Nat) (l : List Acc) (g : GS) (hi : GInv size cells g l) (hs1 : 1 ≤ size) (hs2 : size ≤ 16) (hc1 : 1 ≤ cells) (hc2 : cells ≤ 1000000) (hlen : l.length ≤ 90000000000) (hb : g.es.length < 100000000) (kind : Int) (hk : kind % 5 = 0) (a : Option Addr) (len cap : Nat) (q : Nat → Nat → Int) (hl : len ≤ 9223372036854775807) (w : World) (F : Nat → Prop) (hg : Grid w a len 2 q) (hO : MG p x size cells l g w F) :
    Calls Try.prog 9 #[.pointer (some ⟨x, 0, none⟩), .pointer (some ⟨p, 0, none⟩), .int .i64 kind, .slice a len cap] w (ActTo w F (MG p x size cells (pubG size cells g l (fitZ cells q (min len 4))).2 (pubG size cells g l (fitZ cells q (min len 4))).1)) := by
  have hll := hi.ll
  have hdl := hi.dl
  have HP : Hid (∀ w, Calls Try.prog 7 #[.int .i64 kind, .int .i64 5] w fun e w' => e = .returned (.int .i64 0) ∧ w = w') := fun w => by
    have h := pick_any kind 5 (by decide) (by decide) w
    unfold pickZ at h
    rw [hk] at h
    exact h
  have HSZ := Lib.hid ((Looks.left (B := GrowH x size g) (sizes_any p size cells l)) w F hO)
  have HG := Lib.hid hg
  have HO := Lib.hid hO
  clear hg hO hi hk
  have d1 : decide ((0 : Int) < cells) = true := by simp; omega
  by_cases hlt : (g.es.length : Int) - g.done < size
  · have HF := Lib.hid (fun w2 hg => fit_any a len cap q cells (by omega) (by omega) w2 hg hl)
    generalize hws : fitZ (cells : Int) q (min len 4) = ws at *
    have hwl : ws.length = min len 4 := by rw [← hws]; exact fitZ_len _ _ _
    rw [← hwl] at HF
    have hw4 : ws.length ≤ 4 := by omega
    clear hwl
    have hB : pubG size cells g l ws = (⟨g.es ++ [⟨ws, sigW ws, 0⟩], g.laid, g.done⟩, l ++ [stAcc (-1) 1 0 0 ((g.es.length + 1 : Nat) : Int)]) := by unfold pubG; rw [if_pos ⟨hlt, by omega⟩]
    rw [hB]
    have d0 : decide ((g.es.length : Int) - g.done < size) = true := by simpa using hlt
    clear hws
    go_enter Try.func9, Try.ntmps9
    go_wp2_with fail
    refine HSZ.out.mono ?_; rintro e w1 ⟨rfl, hb1⟩
    have HB1 := Lib.hid hb1
    clear hb1 HSZ
    go_wp2_with fail
    refine (HP.out w1).mono ?_; rintro e w' ⟨rfl, rfl⟩
    obtain ⟨FG, hG⟩ := (Stp.refl ((MG.good _ _ _ _ _ _).calm HO.out HB1.out)).has.right
    obtain ⟨la, lc, hR⟩ := hG.read
    obtain ⟨p0, p1, p2, p3, fz⟩ := four_cells hR.hp
    clear hG hR
    go_wp2_with fail
    go_quiet (fail)
    have HB2 := Lib.hid (below_drewN HB1.out nq)
    clear p0 p1 p2 p3 fz HB1
    generalize w1.drewN nq = w2 at *
    go_wp2_with fail
    refine (HF.out w2 (HG.out.below HB2.out)).mono ?_; rintro e w3 ⟨v, rfl, hv, hb3⟩
    obtain ⟨va, vc, rfl⟩ := ownAt_form hv
    have hz2 := HB2.out.size
    have hz3 := hb3.size
    have HB3 := Lib.hid (HB2.out.trans (hb3.mono hz2))
    have HV : Hid (w3.ownsRow w.heap.size 97 2 (.slice va ws.length vc) ws.length (wrCells ws)) := own_base hv (fun b hb => by have := (hv.lt b hb).1; omega)
    clear hv hb3 HF HB2
    go_wp2_with fail
    go_loopw [11] (fun i wr => ∃ j : Nat, j ≤ ws.length ∧ i = .int .i64 j ∧ Hid (wr.heap[w3.heap.size]? = some (.cells (entCell (.slice va ws.length vc, ⟨ws, sigW (ws.take j), 0⟩)).toArray 94) ∧ Below w.heap.size w wr ∧ wr.ownsRow w.heap.size 97 2 (.slice va ws.length vc) ws.length (wrCells ws) ∧ w3.heap.size < wr.heap.size)) (fun i _ => ws.length - (intOf i).toNat)
    case atStart =>
      exact ⟨0, by omega, rfl, heapAlloc _ _, HB3.out.alloc (by omega) _, HV.out.alloc _, by simp⟩
    case round =>
      obtain ⟨j, hj, rfl, HH⟩ := hrel
      have hbl : ∀ b', (Value.slice va ws.length vc).ownBlock = some b' → b' < w3.heap.size := fun b' hb' => (HV.out.lt b' hb').2
      obtain ⟨b0, b1, b2, b3, b4, b5, b6, b7, b8, b9, bz⟩ := ent_lits HH.out.1
      by_cases hltj : j < ws.length
      · obtain ⟨r, hr⟩ : ∃ r, ws[j]? = some r := ⟨_, List.getElem?_eq_getElem hltj⟩
        obtain ⟨wb, wc, hvv, hwl, v0, v1, vz⟩ := wr_at HH.out.2.2.1 hr
        obtain ⟨rfl, rfl⟩ : va = some ⟨wb, 0, none⟩ ∧ vc = wc := by simpa using hvv
        have HW := Lib.hid (refWith_any (sigW (ws.take j)) (sigW_wds _) r.1)
        rw [← sigW_succ hr] at HW
        have HBL := Lib.hid hbl
        simp only at b0 b1 b2 b3 b4 b5 b6 b7 b8 b9
        clear hvv hr hbl
        go_wp2_with fail
        go_still_tail 8, (by kernel_rfl)
        change wpList _ _ _ _ _ wr.drew
        go_wp2_with fail
        refine (HW.out _).mono ?_; rintro e w4 ⟨rfl, hb4'⟩
        have hb4 : Below wr.heap.size wr w4 := ⟨hb4'.os, hb4'.tape, hb4'.output, hb4'.size, hb4'.block⟩
        have hz4 := hb4.size
        have hwr := HH.out.2.2.2
        have hbx4 := (hb4.block w3.heap.size hwr).trans HH.out.1
        obtain ⟨c0, c1, c2, c3, c4, c5, c6, c7, c8, c9, cz⟩ := ent_lits hbx4
        have hwz := HH.out.2.1.size
        have HB4 : Hid (Below w.heap.size w w4) := HH.out.2.1.trans (hb4.mono hwz)
        have HO4 : Hid (w4.ownsRow w.heap.size 97 2 (.slice (some ⟨wb, 0, none⟩) ws.length vc) ws.length (wrCells ws)) := own_calm HH.out.2.2.1 hb4
        have HX4 := Lib.hid hbx4
        clear hb4 hb4' hbx4 HH HW b0 b1 b2 b3 b4 b5 b6 b7 b8 b9 bz v0 v1 vz
        go_wp2_with fail
        go_roundw
        case rel =>
          refine ⟨j + 1, by omega, by go_num, sig8w_heap HX4.out _, sig8w_below HB4.out _ (by omega) _, sig8w_own HO4.out _ (fun b' hb' => by have := HBL.out b' hb'; omega) _, ?_⟩
          show w3.heap.size < (sig8w w4 w3.heap.size (sigW (ws.take (j + 1)))).heap.size
          rw [sig8w_size]; omega
        case measure => simp [intOf]; omega
      · obtain rfl : j = ws.length := by omega
        rw [List.take_length] at HH
        clear b0 b1 b2 b3 b4 b5 b6 b7 b8 b9 bz hbl
        obtain ⟨e, HE⟩ : ∃ e : Ent, Hid (e = ⟨ws, sigW ws, 0⟩) := ⟨_, rfl⟩
        rw [← HE.out] at HH
        have hews : e.ws = ws := by rw [HE.out]
        obtain ⟨b0, b1, b2, b3, b4, b5, b6, b7, b8, b9, bz⟩ := ent_lits HH.out.1
        obtain ⟨FA, FB, hM, hG, hF, hd⟩ := HO.out
        obtain ⟨lv, ps, h1, h2, h3, h4, h5, h6, h7, h8⟩ := id hG
        obtain ⟨la, lc, rfl⟩ := ownAt_form h3
        have PK := Lib.hid (And.intro hM (And.intro hG (And.intro hF (And.intro hd (And.intro h1 (And.intro h2 (And.intro h4 (And.intro h5 (And.intro h6 (And.intro h7 h8))))))))))
        have hpl : ps.length = g.es.length := by rw [← h1, List.length_map]
        have hxl : x < w.heap.size := heap_lt h2
        have hxw : wr.heap[x]? = some (.cells #[.int .i64 size, .slice la ps.length lc, .int .i64 g.laid, .int .i64 g.done] 35) := (HH.out.2.1.block x hxl).trans h2
        obtain ⟨p0, p1, p2, p3, fz⟩ := four_cells hxw
        have HOWN : Hid (wr.ownsRow 0 94 10 (.slice la ps.length lc) ps.length (entCells ps)) := own_calm h3 HH.out.2.1
        have HXW := Lib.hid hxw
        have HLX := Lib.hid h4
        have hxr := heap_lt hxw
        obtain ⟨i0, hi, hI0, hI1, hI2⟩ := info_parts infoEnt
        have hps : ps.length < 100000000 := by omega
        have HPL := Lib.hid hpl
        have HEWS := Lib.hid hews
        clear hM hG hF hd h1 h2 h3 h4 h5 h6 h7 h8 hxw hpl hews
        go_wp2_with fail
        go_region_law ((refine step_append_lies _ (by rfl) (.tmp 97) (.tmp 99) 33 (by rfl) 0 94 i0 (.agg #[.slice none 0 0, .int .u64 0, .int .u64 0, .int .u64 0, .int .u64 0, .int .u64 0, .int .u64 0, .int .u64 0, .int .u64 0, .int .i64 0]) 10 96 Try.underlying33 hi hI0 hI1 hI2 (by rfl) (by decide) _ _ _ (by rfl) (World.ownsRow.alloc (w := wr.drew) HOWN.out _) ⟨wr.heap.size, 0, none⟩ 1 1 (entCell (.slice va ws.length vc, e)) (by rfl) (by rfl) (ten_at wr.drew (.slice va ws.length vc) e _ _ rfl) (ent_one _ _ _ _) (by decide) (by unfold maxLen; omega) (by omega) (Nat.zero_le _) _ rfl ?_; intro g2 c2 w4 hown2 hgrow hat hlt2; have HP2 : Hid (w4.heap[x]? = some (.cells #[.int .i64 size, .slice la ps.length lc, .int .i64 g.laid, .int .i64 g.done] 35)) := (hgrow.block x (by simp; exact Nat.lt_succ_of_lt hxr) (fun e => HLX.out e.symm)).trans (heapAlloc_old (w := wr.drew) HXW.out _); obtain ⟨_, p1', _, _, fz'⟩ := four_cells HP2.out))
        all_goals
          have hC : Chg (fun b => (Value.slice la ps.length lc).ownBlock = some b) wr w4 := (Chg.alloc _ _ _).drew.grow hgrow (fun b hb _ => hb)
          have hW : (Value.slice (some ⟨g2, 0, none⟩) (ps.length + 1) c2).ownBlock = (Value.slice la ps.length lc).ownBlock ∨ ∃ b, (Value.slice (some ⟨g2, 0, none⟩) (ps.length + 1) c2).ownBlock = some b ∧ wr.heap.size ≤ b := by
            rcases hat with e | e
            · exact .inl (by rw [e]; rfl)
            · exact .inr ⟨g2, rfl, by rw [e]; simp⟩
          have HS : Hid (Stp w (w4.setCell ⟨x, 1, none⟩ (.slice (some ⟨g2, 0, none⟩) (ps.length + 1) c2)) F (MG p x size cells l ⟨g.es ++ [⟨ws, sigW ws, 0⟩], g.laid, g.done⟩)) := by
            obtain ⟨hM, hG, hF, hd, h1, h2, h4, h5, h6, h7, h8⟩ := PK.out
            have k := grow_pub (v := .slice va ws.length vc) (e := e) hG HH.out.2.1 h1 h7 h2 h4 h5 h6 h8 hown2 hC hW (by rw [HEWS.out]; exact HH.out.2.2.1)
            rw [HE.out] at k
            exact k.right (MemH.good p size cells l) hM hF hd
          clear hC hW hown2 hgrow hat hlt2 p1' fz' HP2 p0 p1 p2 p3 fz b0 b1 b2 b3 b4 b5 b6 b7 b8 b9 bz
          generalize w4.setCell ⟨x, 1, none⟩ (.slice (some ⟨g2, 0, none⟩) (ps.length + 1) c2) = w5 at *
          obtain ⟨FG5, hG5⟩ := HS.out.has.right
          obtain ⟨la5, lc5, hR5⟩ := hG5.read
          obtain ⟨p0, p1, p2, p3, fz⟩ := four_cells hR5.hp
          have p1' : w5.cell? ⟨x, 1, none⟩ = some (.slice la5 (g.es.length + 1) lc5) := by rw [p1]; simp
          clear hG5 hR5 p1
          have HST := Lib.hid (Stp.lift (Lifts.left (GrowH.good x size ⟨g.es ++ [⟨ws, sigW ws, 0⟩], g.laid, g.done⟩) (store_in p size cells l (by omega) (-1) 1 0 0 ((g.es.length : Int) + 1) (.inl ⟨rfl, rfl, rfl⟩))) HS.out)
          go_wp2_with fail
          refine HST.out.mono ?_; rintro e' w6 ⟨rfl, h⟩
          have H6 := Lib.hid h
          clear h HST
          go_wp2_with fail
          refine bodyPost_end (results_none rfl _ _ _) rfl ?_
          exact ⟨rfl, H6.out⟩
  · have hB : pubG size cells g l (fitZ cells q (min len 4)) = (g, l) := by unfold pubG; rw [if_neg (fun h => hlt h.1)]
    rw [hB]
    have d0 : decide ((g.es.length : Int) - g.done < size) = false := by simpa using hlt
    go_enter Try.func9, Try.ntmps9
    go_wp2_with fail
    refine HSZ.out.mono ?_; rintro e w1 ⟨rfl, hb1⟩
    have HB1 := Lib.hid hb1
    clear hb1 HSZ
    go_wp2_with fail
    refine (HP.out w1).mono ?_; rintro e w' ⟨rfl, rfl⟩
    obtain ⟨FG, hG⟩ := (Stp.refl ((MG.good _ _ _ _ _ _).calm HO.out HB1.out)).has.right
    obtain ⟨la, lc, hR⟩ := hG.read
    obtain ⟨p0, p1, p2, p3, fz⟩ := four_cells hR.hp
    clear hG hR
    go_wp2_with fail
    go_quiet (fail)
    go_wp2_with fail
    refine bodyPost_end (results_none rfl _ _ _) rfl ?_
    exact ⟨rfl, (Stp.refl HO.out).below (MG.good _ _ _ _ _ _) (below_drewN HB1.out _)⟩
end Go.Proofs.Ytojkeahffabifaa
