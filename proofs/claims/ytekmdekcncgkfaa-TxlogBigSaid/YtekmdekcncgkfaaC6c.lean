/- Layer 6: the reference's Read, Reads, Sig. -/
import Derived.Test.YtekmdekcncgkfaaC6b
import Derived.StillTailTactics
namespace Go.Proofs.Ytekmdekcncgkfaa
open Go.RowKit
set_option linter.unusedVariables false
set_option maxHeartbeats 1000000 in
theorem ofCells_any (a : Option Addr) (len cap : Nat) (zs : List Int) (w : World) (hz : IntsAt w a len zs) (hl : len ≤ 9223372036854775807) :
    Calls Try.prog 41 #[.slice a len cap] w fun e w' => e = .returned (.agg #[.int .u64 (ofS zs 0), .int .u64 (ofS zs 1), .int .u64 (ofS zs 2), .int .u64 (ofS zs 3), .int .u64 (ofS zs 4), .int .u64 (ofS zs 5), .int .u64 (ofS zs 6), .int .u64 (ofS zs 7)]) ∧ Below w.heap.size w w' := by
  obtain ⟨hlen, hrow⟩ := hz
  have HL := Lib.hid hlen
  clear hlen
  have HROW := Lib.hid hrow
  clear hrow
  go_enter Try.func41, Try.ntmps41
  go_wp2_with fail
  go_loopw [4] (fun i wr => ∃ k : Nat, k ≤ len ∧ i = .int .i64 k ∧ w.heap.size + 2 ≤ wr.heap.size ∧ Hid (wr.heap[w.heap.size + 1]? = some (.cells #[.int .u64 (ofS (zs.take k) 0), .int .u64 (ofS (zs.take k) 1), .int .u64 (ofS (zs.take k) 2), .int .u64 (ofS (zs.take k) 3), .int .u64 (ofS (zs.take k) 4), .int .u64 (ofS (zs.take k) 5), .int .u64 (ofS (zs.take k) 6), .int .u64 (ofS (zs.take k) 7)] 30) ∧ wr.heap[w.heap.size]? = some (.cells #[.int .u64 (noS 0), .int .u64 (noS 1), .int .u64 (noS 2), .int .u64 (noS 3), .int .u64 (noS 4), .int .u64 (noS 5), .int .u64 (noS 6), .int .u64 (noS 7)] 30) ∧ Below w.heap.size w wr)) (fun i _ => len - (intOf i).toNat)
  case atStart =>
    refine ⟨0, by omega, rfl, by simp, ⟨?_, ?_, ?_⟩⟩
    · exact heap2_1 w _ _
    · exact heap2_0 w _ _
    · exact ((Below.refl _ _).alloc (Nat.le_refl _) _).alloc (by simp) _
  case round =>
    obtain ⟨k, hk, rfl, hsz, HH⟩ := hrel
    obtain ⟨h1, h0, hb⟩ := HH.out
    obtain ⟨c0, c1, c2, c3, c4, c5, c6, c7, fz⟩ := blk_facts h1
    by_cases hlt : k < len
    · obtain ⟨b, off, rfl, hbw, hcell⟩ := HROW.out.resolve_left (by omega)
      have hx := (hb.cell (p := ⟨b, off + k, none⟩) hbw).trans (hcell k hlt)
      have HT := Lib.hid (ofS_succ zs k (by rw [HL.out]; exact hlt))
      have HW := Lib.hid (ofS_wds (zs.take k))
      clear hcell hb h1 h0
      generalize zs.getD k 0 = z at *
      generalize ofS (zs.take k) = t at *
      go_wp2_with fail
      go_still_tail 5, (by kernel_rfl)
      change wpList _ _ _ _ _ wr.drew
      go_wp2_with fail
      refine (refWith_any t HW.out z _).mono ?_; rintro e w1 ⟨rfl, hb1'⟩
      have hb1 : Below wr.heap.size wr w1 := ⟨hb1'.os, hb1'.tape, hb1'.output, hb1'.size, hb1'.block⟩
      have HB1 := Lib.hid hb1
      obtain ⟨d0, d1, d2, d3, d4, d5, d6, d7, gz⟩ := blk_facts ((hb1.block (w.heap.size + 1) (by omega)).trans HH.out.1)
      clear hb1 hb1'
      go_wp2_with fail
      go_roundw
      case rel =>
        refine ⟨k + 1, by omega, by go_num, ?_, ⟨?_, ?_, ?_⟩⟩
        · have := HB1.out.size
          rw [set8_size]; omega
        · rw [HT.out]
          exact set8 ((HB1.out.block (w.heap.size + 1) (by omega)).trans HH.out.1) _ _ _ _ _ _ _ _
        · rw [set8_ne _ _ _ (by omega)]
          exact (HB1.out.block w.heap.size (by omega)).trans HH.out.2.1
        · exact set8_below (HH.out.2.2.trans (HB1.out.mono (by omega))) _ (by omega) _ _ _ _ _ _ _ _
      case measure => simp [intOf]; omega
    · obtain ⟨d0, d1, d2, d3, d4, d5, d6, d7, gz⟩ := blk_facts h0
      obtain rfl : k = len := by omega
      have HT : Hid (zs.take k = zs) := by show _ = _; rw [← HL.out]; exact List.take_length
      have HB := Lib.hid hb
      clear hb h0 h1
      rw [HT.out] at c0 c1 c2 c3 c4 c5 c6 c7
      go_wp2_with fail
      refine bodyPost_ret (v := _) (by simp [results, Try.results41, go_sem, d0, d1, d2, d3, d4, d5, d6, d7]) rfl ⟨rfl, ?_⟩
      exact set8_below HB.out _ (Nat.le_refl _) _ _ _ _ _ _ _ _
theorem ints_of_own {w : World} {B n : Nat} {a : Option Addr} {c : Nat} {xs : List Int} (h : w.ownsRow B 3 1 (.slice a n c) n (xs.map (Value.int .i64))) : IntsAt w a n xs := by
  have hl : xs.length = n := by have := h.1; simpa using this
  rcases Nat.eq_zero_or_pos n with h0 | h0
  · exact ⟨hl, .inl h0⟩
  · obtain ⟨g, c', hv, _, hg, hcell, _, _⟩ := own_parts h h0
    obtain ⟨rfl, rfl⟩ := slice_inj hv
    refine ⟨hl, .inr ⟨g, 0, rfl, hg, fun i hi => ?_⟩⟩
    rw [Nat.zero_add, hcell i (by omega), List.getElem?_map, List.getElem?_eq_getElem (by omega), List.getD_eq_getElem?_getD, List.getElem?_eq_getElem (by omega)]; rfl
set_option maxHeartbeats 2000000 in
theorem rlogRead_any (st : TS) (r : Nat) (G : Nat → Prop) (told : List Int) (hlen : told.length ≤ 1024) (w : World) (h : RLogObj w r st told G) (c : Int) :
    Calls Try.prog 28 #[.pointer (some ⟨r, 0, none⟩), .int .i64 c] w (RLogPut w r G st (tellL told c) (.tuple #[])) := by
  obtain ⟨i0, hi, hI0, hI1, hI2⟩ := info_parts infoInt5
  have HO := Lib.hid h
  obtain ⟨T, GT, tv, h1, h2, h3, h4, h5, h6, h7⟩ := h
  obtain ⟨ta, tc, rfl⟩ := ownAt_form h3
  obtain ⟨p0, p1, fz⟩ := rlog_cells h1
  have H1 := Lib.hid (And.intro h1 (And.intro h2 (And.intro h3 (And.intro h4 (And.intro h5 (And.intro h6 h7))))))
  obtain ⟨b, hb⟩ : ∃ b, decide (0 ≤ c ∧ c < 1024) = b := ⟨_, rfl⟩
  have HB := Lib.hid hb
  have HRT := right_any c
  rw [hb] at HRT
  have HR := Lib.hid HRT
  have HM := Lib.hid (memN_all told c)
  clear h1 h2 h4 h5 h6 h7 hb HRT
  have H3 := Lib.hid h3
  clear h3
  go_enter Try.func28, Try.ntmps28
  go_wp2_with fail
  refine (HR.out _).mono ?_
  rintro e w1 ⟨rfl, rfl⟩
  go_wp2_with fail
  go_loop [4, 5] (fun ok i => ∃ k : Nat, k ≤ told.length ∧ i = .int .i64 k ∧ ok = .bool (b && !memN told c k)) (fun _ i => told.length - (intOf i).toNat)
  case atStart => exact ⟨0, by omega, rfl, by simp [memN]⟩
  case round =>
    obtain ⟨k, hk, rfl, rfl⟩ := hrel
    by_cases hlt : k < told.length
    · obtain ⟨g, c', he, hx, hf⟩ := slots_cells H3.out k hlt
      obtain ⟨rfl, rfl⟩ := slice_inj he
      have HS := Lib.hid (memN_succ told c k)
      clear he hf
      generalize slotAt told k = x at *
      generalize memN told c k = m at *
      have HOK : Hid ((b && !(m || x == c)) = (b && !m && !(x == c))) := by cases b <;> cases m <;> rfl
      generalize (b && !m) = ok at *
      cases ok
      · go_wp2_with fail
        go_round
        case rel => exact ⟨k + 1, by omega, by go_num, by rw [HS.out, HOK.out]; rfl⟩
        case measure => simp [intOf]; omega
      · by_cases hxc : x = c
        · have hb1 : (x == c) = true := by simp [hxc]
          have hb2 : (x != c) = false := by simp [hxc]
          rw [hb1] at HOK HS
          clear hxc
          go_wp2_with fail
          go_round
          case rel => exact ⟨k + 1, by omega, by go_num, by rw [HS.out, HOK.out]; rfl⟩
          case measure => simp [intOf]; omega
        · have hb1 : (x == c) = false := by simp [hxc]
          have hb2 : (x != c) = true := by simp [hxc]
          rw [hb1] at HOK HS
          clear hxc
          go_wp2_with fail
          go_round
          case rel => exact ⟨k + 1, by omega, by go_num, by rw [HS.out, HOK.out]; rfl⟩
          case measure => simp [intOf]; omega
    · obtain rfl : k = told.length := by omega
      by_cases hin : (0 ≤ c ∧ c < 1024) ∧ c ∉ told
      · have hok : (b && !memN told c told.length) = true := by
          rw [HM.out, ← HB.out]
          simp [hin]
        have HT : Hid (tellL told c = told ++ [c]) := by show _ = _; unfold tellL; rw [if_pos hin]
        rw [hok]
        have hown := H3.out
        clear hin hok
        go_wp2_with (at_builtin; refine wpList_append_own_at _ rfl (.tmp 34) (.tmp 36) 63 rfl 0 3 i0 (.int .i64 0) 1 8 Try.underlying63 hi hI0 hI1 hI2 rfl (by decide) _ _ _ rfl (hown.alloc _) ⟨w.heap.size, 0, none⟩ 1 1 [.int .i64 c] rfl rfl ?c1 ?c2 ?c3 ?c4 ?c5 ?_)
        case c2 => rfl
        case c3 => unfold maxLen; omega
        case c4 => omega
        · intro v' w2 hown' hgrow _ hwhere
          obtain ⟨a', cc', rfl⟩ := ownAt_form hown'
          obtain ⟨a1, a2, a3, a4, a5, a6, a7⟩ := H1.out
          have hrl := heap_lt a1
          have HB2 : Hid (w2.heap[r]? = some (.cells #[.pointer (some ⟨T, 0, none⟩), .slice ta told.length tc] 65)) := by
            show _ = _
            rw [hgrow.block r (by simp; omega) (fun e => a5 e.symm)]
            exact heapAlloc_old a1 _
          have HC2 : Hid (Chg (fun b => (Value.slice ta told.length tc).ownBlock = some b) w w2) := (Chg.alloc _ _ _).grow hgrow (fun b hb _ => hb)
          obtain ⟨p0', p1', fz'⟩ := rlog_cells HB2.out
          have HW := Lib.hid hwhere
          have HO2 := Lib.hid hown'
          clear hown hown' hgrow hwhere p0 p1 fz a1 a2 a3 a4 a5 a6 a7
          go_wp2_with fail
          refine bodyPost_end (results_none rfl _ _ _) rfl ?_
          obtain ⟨a1, a2, a3, a4, a5, a6, a7⟩ := H1.out
          have hne : (Value.slice a' (told.length + 1) cc').ownBlock ≠ some r := by
            rcases HW.out with e | e
            · rw [e]; exact a5
            · rw [e]; intro e2; simp at e2; omega
          refine ⟨rfl, fun b => b = r ∨ GT b ∨ (Value.slice a' (told.length + 1) cc').ownBlock = some b, ⟨T, GT, .slice a' (told.length + 1) cc', (heapSet_eq _ _ _ _ _ _ _ HB2.out).trans (by simp), (a2.chg HC2.out (fun b hb e => a6 b hb e)).chg (Chg.setCell _ _ _) (fun b hb (e : b = r) => by subst e; exact a4 hb), ?_, a4, hne, fun b hb e => ?_, fun b => Iff.rfl⟩, ?_, ?_⟩
          · rw [HT.out, List.map_append, List.length_append]
            exact own_chg HO2.out (Chg.setCell _ _ _) (fun b hb (e : b = r) => by subst e; exact hne hb)
          · rcases HW.out with h | h
            · exact a6 b hb (h.symm.trans e)
            · rw [h] at e
              have := a2.lt hb
              simp at e; omega
          · exact (HC2.out.mono (fun b hb => (a7 b).2 (.inr (.inr hb)))).trans (Chg.setCell _ _ _) (fun _ h => h) (fun b _ (e : b = r) => (a7 b).2 (.inl e))
          · rintro b (rfl | h | h)
            · exact .inl ((a7 _).2 (.inl rfl))
            · exact .inl ((a7 b).2 (.inr (.inl h)))
            · rcases HW.out with e | e
              · exact .inl ((a7 b).2 (.inr (.inr (e.symm.trans h))))
              · right
                rw [e] at h
                simp at h; omega
      · have hok : (b && !memN told c told.length) = false := by
          rw [HM.out, ← HB.out]
          by_cases h1 : 0 ≤ c ∧ c < 1024
          · have h2 : c ∈ told := Classical.byContradiction fun h => hin ⟨h1, h⟩
            simp [h2]
          · simp [h1]
        have HT : Hid (tellL told c = told) := by show _ = _; unfold tellL; rw [if_neg hin]
        rw [hok]
        clear hin hok
        go_wp2_with fail
        refine bodyPost_end (results_none rfl _ _ _) rfl ?_
        exact ⟨rfl, G, by rw [HT.out]; exact HO.out, Chg.refl _ _, fun _ h => .inl h⟩
end Go.Proofs.Ytekmdekcncgkfaa
