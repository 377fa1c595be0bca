/- Layer 6: the reference's Reads, Sig; both New. -/
import Derived.Test.YtekmdekcncgkfaaC6c
namespace Go.Proofs.Ytekmdekcncgkfaa
open Go.RowKit
set_option linter.unusedVariables false
set_option maxHeartbeats 1000000 in
theorem rlogReads_any (st : TS) (r : Nat) (G : Nat → Prop) (told : List Int) (hlen : told.length ≤ 1024) (w : World) (h : RLogObj w r st told G) :
    Calls Try.prog 29 #[.pointer (some ⟨r, 0, none⟩)] w fun e w' => e = .returned (.agg #[.int .u64 (ofS told 0), .int .u64 (ofS told 1), .int .u64 (ofS told 2), .int .u64 (ofS told 3), .int .u64 (ofS told 4), .int .u64 (ofS told 5), .int .u64 (ofS told 6), .int .u64 (ofS told 7)]) ∧ Below w.heap.size w w' := by
  obtain ⟨T, GT, tv, h1, h2, h3, h4, h5, h6, h7⟩ := h
  obtain ⟨ta, tc, rfl⟩ := ownAt_form h3
  obtain ⟨p0, p1, fz⟩ := rlog_cells h1
  have hrl := heap_lt h1
  have H0 : Hid (Below w.heap.size w (w.alloc (.cells #[.int .u64 (noS 0), .int .u64 (noS 1), .int .u64 (noS 2), .int .u64 (noS 3), .int .u64 (noS 4), .int .u64 (noS 5), .int .u64 (noS 6), .int .u64 (noS 7)] 30))) := (Below.refl _ _).alloc (Nat.le_refl _) _
  have HI := Lib.hid (ints_of_own (own_calm h3 H0.out))
  clear h1 h2 h3 h4 h5 h6 h7
  go_enter Try.func29, Try.ntmps29
  go_wp2_with fail
  refine (ofCells_any ta told.length tc told _ HI.out (by omega)).mono ?_; rintro e w1 ⟨rfl, hb⟩
  have hbx : w1.heap[w.heap.size]? = some (.cells #[.int .u64 (noS 0), .int .u64 (noS 1), .int .u64 (noS 2), .int .u64 (noS 3), .int .u64 (noS 4), .int .u64 (noS 5), .int .u64 (noS 6), .int .u64 (noS 7)] 30) := (hb.block _ (by simp)).trans (heapAlloc w _)
  obtain ⟨d0, d1, d2, d3, d4, d5, d6, d7, gz⟩ := blk_facts hbx
  have HB : Hid (Below w.heap.size w w1) := H0.out.trans (hb.mono (by simp))
  clear hb hbx
  go_wp2_with fail
  refine bodyPost_ret (v := _) (by simp [results, Try.results29, go_sem, d0, d1, d2, d3, d4, d5, d6, d7]) rfl ⟨rfl, ?_⟩
  exact set8_below HB.out _ (Nat.le_refl _) _ _ _ _ _ _ _ _
theorem cellsT_take {st : TS} {k : Nat} (h : k < st.rows.length) : (cellsT st).take (k + 1) = (cellsT st).take k ++ [cellAt st.rows k] := by
  unfold cellsT
  rw [← List.map_take, take_row h, List.map_append, List.map_take]; rfl
set_option maxHeartbeats 2000000 in
theorem rlogSig_any (st : TS) (hI : Inv st) (r : Nat) (G : Nat → Prop) (told : List Int) (w : World) (h : RLogObj w r st told G) :
    Calls Try.prog 30 #[.pointer (some ⟨r, 0, none⟩)] w fun e w' => e = .returned (.agg #[.int .u64 (ofS (cellsT st) 0), .int .u64 (ofS (cellsT st) 1), .int .u64 (ofS (cellsT st) 2), .int .u64 (ofS (cellsT st) 3), .int .u64 (ofS (cellsT st) 4), .int .u64 (ofS (cellsT st) 5), .int .u64 (ofS (cellsT st) 6), .int .u64 (ofS (cellsT st) 7)]) ∧ Below w.heap.size w w' := by
  obtain ⟨i0, hi, hI0, hI1, hI2⟩ := info_parts infoInt5
  obtain ⟨T, GT, tv, h1, h2, h3, h4, h5, h6, h7⟩ := h
  obtain ⟨p0, p1, fz⟩ := rlog_cells h1
  have hrl := heap_lt h1
  have H0 : Hid (Below w.heap.size w (w.alloc (.cells #[.int .u64 (noS 0), .int .u64 (noS 1), .int .u64 (noS 2), .int .u64 (noS 3), .int .u64 (noS 4), .int .u64 (noS 5), .int .u64 (noS 6), .int .u64 (noS 7)] 30))) := (Below.refl _ _).alloc (Nat.le_refl _) _
  have HC := Lib.hid (refList_obj st hI T GT _ (h2.calm H0.out))
  have HN : Hid (st.rows.length ≤ 24) := Nat.le_trans hI.full hI.m2
  generalize hNN : st.rows.length = N at *
  have hN := HN.out
  have HNN := Lib.hid hNN
  clear h1 h2 h3 h4 h5 h6 h7 hI hNN
  go_enter Try.func30, Try.ntmps30
  go_wp2_with fail
  refine HC.out.mono ?_
  rintro e w1 ⟨v1, rfl, ho, hb⟩
  have hbx : w1.heap[w.heap.size]? = some (.cells #[.int .u64 (noS 0), .int .u64 (noS 1), .int .u64 (noS 2), .int .u64 (noS 3), .int .u64 (noS 4), .int .u64 (noS 5), .int .u64 (noS 6), .int .u64 (noS 7)] 30) := (hb.block _ (by simp)).trans (heapAlloc w _)
  have HBX := Lib.hid hbx
  have hz1 := hb.size
  simp only [World.size_alloc] at hz1
  have H1 : Hid (Below w.heap.size w w1) := H0.out.trans (hb.mono (by simp))
  rw [HNN.out] at ho
  obtain ⟨la, lc, rfl⟩ := ownAt_form ho
  have HO1 := Lib.hid (own_zero ho)
  clear ho hb hbx HC p0 p1 fz
  go_wp2_with fail
  go_loopw [4, 5] (fun v i wr => ∃ k : Nat, k ≤ N ∧ i = .int .i64 k ∧ Hid (wr.ownsRow w1.heap.size 3 1 v k (((cellsT st).take k).map (Value.int .i64))) ∧ w1.heap.size ≤ wr.heap.size ∧ Hid (Below w1.heap.size w1 wr)) (fun _ i _ => N - (intOf i).toNat)
  case atStart => exact ⟨0, by omega, rfl, World.ownsRow_nil _ _ _ _, Nat.le_refl _, Below.refl _ _⟩
  case round =>
    obtain ⟨k, hk, rfl, HO, hsz, HB⟩ := hrel
    by_cases hlt : k < N
    · obtain ⟨g, c2, he2, hy1, hy2, hf2⟩ := rows_cells (rows := st.rows) (by rw [HNN.out]; exact own_calm HO1.out HB.out) k (by rw [HNN.out]; exact hlt)
      rw [HNN.out] at he2
      obtain ⟨rfl, rfl⟩ := slice_inj he2
      have HT := Lib.hid (cellsT_take (st := st) (k := k) (by rw [HNN.out]; exact hlt))
      have hown := HO.out
      clear he2 hf2 hy2
      generalize cellAt st.rows k = x at *
      go_wp2_with (at_builtin; refine wpList_append_own_at _ rfl (.tmp 17) (.tmp 23) 63 rfl w1.heap.size 3 i0 (.int .i64 0) 1 8 Try.underlying63 hi hI0 hI1 hI2 rfl (by decide) _ _ _ rfl (hown.alloc _) ⟨wr.heap.size, 0, none⟩ 1 1 [.int .i64 x] rfl rfl ?c1 ?c2 ?c3 ?c4 ?c5 ?_)
      case c1 => exact cell_one_new _ _ _
      case c2 => intro u hu; simp at hu; subst hu; rfl
      case c3 => unfold maxLen; omega
      case c4 => omega
      case c5 => simp; omega
      · intro v' w2 hown' hgrow _ _
        have hb : Below w1.heap.size wr w2 := ((Below.refl _ _).alloc hsz _).grown hgrow (by simp; omega) (fun j hj => (hown.lt j hj).1)
        have HO2 : Hid (w2.ownsRow w1.heap.size 3 1 v' (k + 1) (((cellsT st).take (k + 1)).map (Value.int .i64))) := by
          show World.ownsRow _ _ _ _ _ _ _
          rw [HT.out, List.map_append, List.map_take]
          exact hown'
        have hz2 := hb.size
        have HB2 := Lib.hid (HB.out.trans hb)
        clear hown' hgrow hown hb hy1
        go_wp2_with fail
        go_roundw
        case rel => exact ⟨k + 1, by omega, by go_num, HO2.out, by omega, HB2.out⟩
        case measure => simp [intOf]; omega
    · obtain rfl : k = N := by omega
      have hown := HO.out
      obtain ⟨a2, c2, rfl⟩ := ownAt_form hown
      have HT : Hid ((cellsT st).take k = cellsT st) := by
        show _ = _
        refine List.take_of_length_le ?_
        unfold cellsT
        rw [List.length_map, HNN.out]; exact Nat.le_refl _
      rw [HT.out] at hown
      have HIN := Lib.hid (ints_of_own hown)
      clear hown
      go_wp2_with fail
      refine (ofCells_any a2 k c2 (cellsT st) _ HIN.out (by omega)).mono ?_; rintro e w2 ⟨rfl, hb⟩
      have hbx : w2.heap[w.heap.size]? = some (.cells #[.int .u64 (noS 0), .int .u64 (noS 1), .int .u64 (noS 2), .int .u64 (noS 3), .int .u64 (noS 4), .int .u64 (noS 5), .int .u64 (noS 6), .int .u64 (noS 7)] 30) := (hb.block _ (by omega)).trans ((HB.out.block _ (by omega)).trans HBX.out)
      obtain ⟨d0, d1, d2, d3, d4, d5, d6, d7, gz⟩ := blk_facts hbx
      have HB2 : Hid (Below w.heap.size w w2) := H1.out.trans ((HB.out.mono (by omega)).trans (hb.mono (by omega)))
      clear hb hbx
      go_wp2_with fail
      refine bodyPost_ret (v := _) (by simp [results, Try.results30, go_sem, d0, d1, d2, d3, d4, d5, d6, d7]) rfl ⟨rfl, ?_⟩
      exact set8_below HB2.out _ (Nat.le_refl _) _ _ _ _ _ _ _ _
/-- The program's New has answered. -/
def LogNew (w : World) (m : Nat) (e : Ending) (w' : World) : Prop :=
  ∃ p F, e = .returned (.tuple #[.pointer (some ⟨p, 0, none⟩), .int .i64 0]) ∧ LogObj w' p (newT m) noS noS F ∧ Below w.heap.size w w' ∧ ∀ b, F b → w.heap.size ≤ b
theorem logNew_any (m : Nat) (h1 : 1 ≤ m) (h2 : m ≤ 24) (w : World) : Calls Try.prog 15 #[.int .i64 m] w (LogNew w m) := by
  have HC := Lib.hid (tabNew_any m h1 h2 w)
  go_enter Try.func15, Try.ntmps15
  go_wp2_with fail
  refine HC.out.mono ?_
  rintro e w1 ⟨p, F, rfl, hT, hb, hf⟩
  have H := Lib.hid (And.intro hT (And.intro hb hf))
  have hz := hb.size
  clear hT hb hf HC
  go_wp2_with fail
  go_ret2
  refine ⟨w1.heap.size, fun b => b = w1.heap.size ∨ F b, rfl, ⟨p, F, heapAlloc _ _, H.out.1.calm ((Below.refl _ _).alloc (Nat.le_refl _) _), fun h => by have := H.out.1.lt h; omega, fun _ => Iff.rfl⟩, H.out.2.1.alloc hz _, ?_⟩
  rintro b (rfl | h)
  · exact hz
  · exact H.out.2.2 b h
theorem logNew_bad (m : Int) (h : m < 1 ∨ 24 < m) (w : World) : Calls Try.prog 15 #[.int .i64 m] w fun e w' => e = .returned (.tuple #[.pointer none, .int .i64 1]) ∧ w = w' := by
  have HC := Lib.hid (tabNew_bad m h w)
  clear h
  go_enter Try.func15, Try.ntmps15
  go_wp2_with fail
  refine HC.out.mono ?_
  rintro e w1 ⟨rfl, rfl⟩
  go_wp2_with fail
  go_ret2
  exact ⟨rfl, rfl⟩
/-- The reference's New has answered. -/
def RLogNew (w : World) (m : Nat) (e : Ending) (w' : World) : Prop :=
  ∃ p G, e = .returned (.tuple #[.pointer (some ⟨p, 0, none⟩), .int .i64 0]) ∧ RLogObj w' p (newT m) [] G ∧ Below w.heap.size w w' ∧ ∀ b, G b → w.heap.size ≤ b
theorem rlogNew_any (m : Nat) (h1 : 1 ≤ m) (h2 : m ≤ 24) (w : World) : Calls Try.prog 16 #[.int .i64 m] w (RLogNew w m) := by
  have HC := Lib.hid (refNew_any m h1 h2 w)
  go_enter Try.func16, Try.ntmps16
  go_wp2_with fail
  refine HC.out.mono ?_
  rintro e w1 ⟨p, F, rfl, hT, hb, hf⟩
  have H := Lib.hid (And.intro hT (And.intro hb hf))
  have hz := hb.size
  clear hT hb hf HC
  go_wp2_with fail
  go_ret2
  refine ⟨w1.heap.size, fun b => b = w1.heap.size ∨ F b, rfl, ⟨p, F, .slice none 0 0, heapAlloc _ _, H.out.1.calm ((Below.refl _ _).alloc (Nat.le_refl _) _), World.ownsRow_nil _ _ _ _, fun h => by have := H.out.1.lt h; omega, by simp [Value.ownBlock], fun b _ => by simp [Value.ownBlock], fun b => by simp [Value.ownBlock]⟩, H.out.2.1.alloc hz _, ?_⟩
  rintro b (rfl | h)
  · exact hz
  · exact H.out.2.2 b h
theorem rlogNew_bad (m : Int) (h : m < 1 ∨ 24 < m) (w : World) : Calls Try.prog 16 #[.int .i64 m] w fun e w' => e = .returned (.tuple #[.pointer none, .int .i64 1]) ∧ w = w' := by
  have HC := Lib.hid (refNew_bad m h w)
  clear h
  go_enter Try.func16, Try.ntmps16
  go_wp2_with fail
  refine HC.out.mono ?_
  rintro e w1 ⟨rfl, rfl⟩
  go_wp2_with fail
  go_ret2
  exact ⟨rfl, rfl⟩
end Go.Proofs.Ytekmdekcncgkfaa
