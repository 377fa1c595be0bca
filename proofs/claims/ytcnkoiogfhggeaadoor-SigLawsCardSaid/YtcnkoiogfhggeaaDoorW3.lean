/- The walk of SigBits. -/
import Derived.Test.YtcnkoiogfhggeaaDoorW2b
import Derived.Laws.OwnMore
import Derived.Deep.AppendLies
namespace Go.Proofs.YtcnkoiogfhggeaaDoor
open Go.RowKit
set_option linter.unusedVariables false
theorem own_store {w : World} {B T n c : Nat} {a : Option Addr} {xs : List Value} (h : w.ownsRow B T 1 (.slice a n c) n xs) (hn : 0 < n) :
    ∃ g, a = some ⟨g, 0, none⟩ ∧ B ≤ g ∧ g < w.heap.size ∧ (∀ k, k < n → w.cell? ⟨g, k, none⟩ = some (xs.getD k default)) ∧ (∀ o, w.frozen? ⟨g, o, none⟩ = false) ∧ ∀ k v, k < n → (w.setCell ⟨g, k, none⟩ v).ownsRow B T 1 (.slice a n c) n (xs.set k v) := by
  obtain ⟨hl, h2⟩ := h
  rcases h2 with ⟨hv, rfl⟩ | ⟨g, cap, cur, hv, hB, hg, hnc, hcm, hcs, htake⟩
  · omega
  · simp only [Value.slice.injEq, true_and] at hv
    obtain ⟨rfl, rfl⟩ := hv
    refine ⟨g, rfl, hB, (Array.getElem?_eq_some_iff.1 hg).1, fun k hk => ?_, fun o => by simp [World.frozen?, hg], fun k v hk => ⟨by simpa using hl, .inr ⟨g, c, cur.setIfInBounds k v, rfl, hB, heap_setCell_eq _ _ _ _ _ _ _ hg, hnc, hcm, by simpa using hcs, ?_⟩⟩⟩
    · rw [cell_of_row w g k cur T (0, 0) hg]
      have h1 : (cur.toList.take (n * 1))[k]? = xs[k]? := by rw [htake]
      rw [List.getElem?_take, if_pos (by omega)] at h1
      have h3 : xs[k]? = some (xs[k]'(by omega)) := List.getElem?_eq_getElem (by omega)
      have h2 : cur[k]? = cur.toList[k]? := by simp
      rw [h2, h1, List.getD_eq_getElem?_getD, h3]; rfl
    · rw [← htake, Array.toList_setIfInBounds, List.take_set]
set_option maxRecDepth 100000 in
set_option maxHeartbeats 4000000 in
theorem sigBits_law (s : Nat → Int) (hs : Wds s) (w : World) (hT : Tab w) :
    Calls Tryd.prog 4 #[(.agg #[.int .u64 (s 0), .int .u64 (s 1), .int .u64 (s 2), .int .u64 (s 3), .int .u64 (s 4), .int .u64 (s 5), .int .u64 (s 6), .int .u64 (s 7)])] w fun e w' => e = .returned (.bool true) ∧ Below w.heap.size w w' := by
  obtain ⟨i0, hi, hq0, hq1, hq2⟩ := info_parts infoInt
  have HS := Lib.hid hs
  have HT := Lib.hid hT
  have hlen512 := bitsI_len s 512
  have HBits : Hid (∀ w, Tab w → Calls Tryd.prog 17 #[(.agg #[.int .u64 (s 0), .int .u64 (s 1), .int .u64 (s 2), .int .u64 (s 3), .int .u64 (s 4), .int .u64 (s 5), .int .u64 (s 6), .int .u64 (s 7)])] w (IntsOut w (bitsI s 512))) := fun w h => bits_any s hs w h
  have HRef : Hid (∀ w, Calls Tryd.prog 18 #[(.agg #[.int .u64 (s 0), .int .u64 (s 1), .int .u64 (s 2), .int .u64 (s 3), .int .u64 (s 4), .int .u64 (s 5), .int .u64 (s 6), .int .u64 (s 7)])] w (IntsOut w (bitsI s 512))) := fun w => refBits_any s hs w
  generalize bitsI s 512 = xs at *
  clear hs hT
  go_enter Tryd.func4, Tryd.ntmps4
  go_wp2_with fail
  refine (shown2_any _ (HT.out.below ((Below.refl w.heap.size w).alloc (Nat.le_refl _) _) HT.out.pos)).mono ?_
  rintro e w1 ⟨rfl, hb⟩
  have hz1 := hb.size
  simp only [World.size_alloc] at hz1
  have HX1 : Hid (w1.heap[w.heap.size]? = some (.cells #[.int .u64 (s 0), .int .u64 (s 1), .int .u64 (s 2), .int .u64 (s 3), .int .u64 (s 4), .int .u64 (s 5), .int .u64 (s 6), .int .u64 (s 7)] 25) ∧ Below w.heap.size w w1) := ⟨(hb.block _ (by simp)).trans (heap1_0 w _), ((Below.refl _ _).alloc (Nat.le_refl _) _).trans (hb.mono (by simp))⟩
  clear hb
  obtain ⟨s0, s1, s2, s3, s4, s5, s6, s7, sz⟩ := blk_facts HX1.out.1
  go_wp2_with fail
  refine (HBits.out _ (HT.out.below HX1.out.2 HT.out.pos)).mono ?_
  rintro e w2 ⟨v2, rfl, hown, hb⟩
  obtain ⟨a2, c2, rfl⟩ := own_form hown
  have HA3 : Hid (∀ g, (Value.slice a2 xs.length c2).ownBlock = some g → w1.heap.size ≤ g ∧ g < w2.heap.size) := hown.lt
  have HA2 : Hid (∀ g, a2 = some ⟨g, 0, none⟩ → g < w2.heap.size) := by
    rintro g rfl
    exact (hown.lt g rfl).2
  have hzz2 := hb.size
  have HO := Lib.hid hown
  have HX2 : Hid (w2.heap[w.heap.size]? = some (.cells #[.int .u64 (s 0), .int .u64 (s 1), .int .u64 (s 2), .int .u64 (s 3), .int .u64 (s 4), .int .u64 (s 5), .int .u64 (s 6), .int .u64 (s 7)] 25) ∧ Below w.heap.size w w2) := ⟨(hb.block _ (by omega)).trans HX1.out.1, HX1.out.2.trans (hb.mono (by omega))⟩
  clear hb hown HX1 s0 s1 s2 s3 s4 s5 s6 s7 sz
  obtain ⟨s0, s1, s2, s3, s4, s5, s6, s7, sz⟩ := blk_facts HX2.out.1
  go_wp2_with fail
  refine (HRef.out _).mono ?_
  rintro e w3 ⟨v3, rfl, hown, hb⟩
  obtain ⟨a3, c3, rfl⟩ := own_form hown
  have hzz3 := hb.size
  have HM := Lib.hid hown
  have HO3 : Hid (w3.ownsRow w1.heap.size 3 1 (.slice a2 xs.length c2) xs.length (xs.map (Value.int .i64))) := own_below HO.out hb
  have HX3 : Hid (w3.heap[w.heap.size]? = some (.cells #[.int .u64 (s 0), .int .u64 (s 1), .int .u64 (s 2), .int .u64 (s 3), .int .u64 (s 4), .int .u64 (s 5), .int .u64 (s 6), .int .u64 (s 7)] 25) ∧ Below w.heap.size w w3) := ⟨(hb.block _ (by omega)).trans HX2.out.1, HX2.out.2.trans (hb.mono (by omega))⟩
  clear hb hown HX2 HO s0 s1 s2 s3 s4 s5 s6 s7 sz
  obtain ⟨s0, s1, s2, s3, s4, s5, s6, s7, sz⟩ := blk_facts HX3.out.1
  go_wp2_with fail
  refine (empty_any s _).mono ?_
  rintro e w4 ⟨rfl, hb⟩
  have hz4 := hb.size
  have HM4 : Hid (w4.ownsRow w2.heap.size 3 1 (.slice a3 xs.length c3) xs.length (xs.map (Value.int .i64))) := own_below HM.out hb
  have HO4 : Hid (w4.ownsRow w1.heap.size 3 1 (.slice a2 xs.length c2) xs.length (xs.map (Value.int .i64))) := own_below HO3.out hb
  have HX4 : Hid (w4.heap[w.heap.size]? = some (.cells #[.int .u64 (s 0), .int .u64 (s 1), .int .u64 (s 2), .int .u64 (s 3), .int .u64 (s 4), .int .u64 (s 5), .int .u64 (s 6), .int .u64 (s 7)] 25) ∧ Below w.heap.size w w4) := ⟨(hb.block _ (by omega)).trans HX3.out.1, HX3.out.2.trans (hb.mono (by omega))⟩
  clear hb HX3 HO3 HM s0 s1 s2 s3 s4 s5 s6 s7 sz
  obtain ⟨s0, s1, s2, s3, s4, s5, s6, s7, sz⟩ := blk_facts HX4.out.1
  go_wp2_with fail
  refine (refEmpty_any s HS.out _).mono ?_
  rintro e w5 ⟨rfl, hb⟩
  have hz5 := hb.size
  have HM5 : Hid (w5.ownsRow w2.heap.size 3 1 (.slice a3 xs.length c3) xs.length (xs.map (Value.int .i64))) := own_below HM4.out hb
  have HO5 : Hid (w5.ownsRow w1.heap.size 3 1 (.slice a2 xs.length c2) xs.length (xs.map (Value.int .i64))) := own_below HO4.out hb
  have HX5 : Hid (w5.heap[w.heap.size]? = some (.cells #[.int .u64 (s 0), .int .u64 (s 1), .int .u64 (s 2), .int .u64 (s 3), .int .u64 (s 4), .int .u64 (s 5), .int .u64 (s 6), .int .u64 (s 7)] 25) ∧ Below w.heap.size w w5) := ⟨(hb.block _ (by omega)).trans HX4.out.1, HX4.out.2.trans (hb.mono (by omega))⟩
  clear hb HX4 HO4 HM4 s0 s1 s2 s3 s4 s5 s6 s7 sz
  go_wp2_with fail
  obtain ⟨a2', c2', e2, hi2, hn2⟩ := own_ints HO5.out
  obtain ⟨rfl, rfl⟩ : a2 = a2' ∧ c2 = c2' := by simpa using e2
  obtain ⟨a3', c3', e3, hi3, hn3⟩ := own_ints HM5.out
  obtain ⟨rfl, rfl⟩ : a3 = a3' ∧ c3 = c3' := by simpa using e3
  refine (ints_any _ _ _ _ _ _ xs xs _ hi2 hi3 hn2 hn3).mono ?_
  rintro e w6 ⟨rfl, hb⟩
  have hz6 := hb.size
  have HM6 : Hid (w6.ownsRow w2.heap.size 3 1 (.slice a3 xs.length c3) xs.length (xs.map (Value.int .i64))) := own_below HM5.out hb
  have HO6 : Hid (w6.ownsRow w1.heap.size 3 1 (.slice a2 xs.length c2) xs.length (xs.map (Value.int .i64))) := own_below HO5.out hb
  have HX6 : Hid (w6.heap[w.heap.size]? = some (.cells #[.int .u64 (s 0), .int .u64 (s 1), .int .u64 (s 2), .int .u64 (s 3), .int .u64 (s 4), .int .u64 (s 5), .int .u64 (s 6), .int .u64 (s 7)] 25) ∧ Below w.heap.size w w6) := ⟨(hb.block _ (by omega)).trans HX5.out.1, HX5.out.2.trans (hb.mono (by omega))⟩
  clear hb HX5 HO5 HM5 hi2 hi3 e2 e3
  go_wp2_with fail
  go_loopw [9] (fun i wr => ∃ k : Nat, k ≤ xs.length ∧ i = .int .i64 k ∧ w6.heap.size ≤ wr.heap.size ∧ Hid (wr.ownsRow w2.heap.size 3 1 (.slice a3 xs.length c3) xs.length (xs.map (Value.int .i64)) ∧ (∃ ys : List Value, wr.ownsRow w1.heap.size 3 1 (.slice a2 xs.length c2) xs.length ys) ∧ wr.heap[w.heap.size]? = some (.cells #[.int .u64 (s 0), .int .u64 (s 1), .int .u64 (s 2), .int .u64 (s 3), .int .u64 (s 4), .int .u64 (s 5), .int .u64 (s 6), .int .u64 (s 7)] 25) ∧ Below w.heap.size w wr)) (fun i _ => xs.length - (intOf i).toNat)
  case atStart => exact ⟨0, by omega, rfl, Nat.le_refl _, HM6.out, ⟨_, HO6.out⟩, HX6.out⟩
  case round =>
    obtain ⟨k, hk, rfl, hsz, HH⟩ := hrel
    by_cases hlt : k < xs.length
    · obtain ⟨hm, ⟨ys, ho⟩, hx, hbl⟩ := HH.out
      obtain ⟨g, rfl, hg1, hg2, hcell, hfr, hset⟩ := own_store ho (by omega)
      have hc := hcell k hlt
      have hf := hfr k
      have HS2 := Lib.hid (hset k (.int .i64 (-1)) hlt)
      have HG : Hid (g < w2.heap.size) := HA2.out g rfl
      clear hcell hfr hset hm ho hx hbl
      go_wp2_with fail
      go_roundw
      case rel =>
        obtain ⟨hm, ⟨ys, ho⟩, hx, hbl⟩ := HH.out
        exact ⟨k + 1, by omega, by go_num, by simpa [World.setCell] using hsz, ownsRow_setCell_below hm HG.out _, ⟨_, HS2.out⟩, (heap_setCell_ne _ _ _ _ (by simp; omega)).trans hx, hbl.setCell (by simp; omega) _⟩
      case measure => simp [intOf]; omega
    · obtain rfl : k = xs.length := by omega
      obtain ⟨hm, ⟨ys, ho⟩, hx, hbl⟩ := HH.out
      have HM7 := Lib.hid hm
      have HX7 := Lib.hid (And.intro hx hbl)
      clear hm hx hbl HH
      have hown := ho
      clear ho
      go_wp2_with (at_builtin; refine wpList_append_own _ rfl (.tmp 33) (.tmp 34) 22 rfl w1.heap.size 3 i0 (.int .i64 0) 1 8 Tryd.underlying22 hi hq0 hq1 hq2 rfl (by decide) _ _ _ rfl (hown.alloc _) ⟨wr.heap.size, 0, none⟩ 1 1 [.int .i64 (-2)] rfl rfl ?c1 ?c2 ?c3 ?c4 ?c5 ?_)
      case c1 => exact cell_one_new _ _ _
      case c2 => intro u hu; simp at hu; subst hu; rfl
      case c3 => unfold maxLen; omega
      case c4 => omega
      case c5 => simp; omega
      · intro v' w7 hown' hgrow _
        obtain ⟨a7, c7, rfl⟩ := own_form hown'
        have hsz7 := hgrow.size
        simp only [World.size_alloc] at hsz7
        have HM8 : Hid (w7.ownsRow w2.heap.size 3 1 (.slice a3 xs.length c3) xs.length (xs.map (Value.int .i64))) := by
          refine (HM7.out.alloc _).kept hgrow ?_
          cases hb3 : (Value.slice a3 xs.length c3).ownBlock with
          | none => exact .inl rfl
          | some g3 =>
            right
            intro e
            have h1 := (HM7.out.lt g3 hb3).1
            have h2 := (HA3.out g3 e.symm).2
            omega
        have HX8 : Hid (w7.heap[w.heap.size]? = some (.cells #[.int .u64 (s 0), .int .u64 (s 1), .int .u64 (s 2), .int .u64 (s 3), .int .u64 (s 4), .int .u64 (s 5), .int .u64 (s 6), .int .u64 (s 7)] 25) ∧ Below w.heap.size w w7) := by
          refine ⟨(hgrow.block _ (by simp; omega) (fun e => ?_)).trans (blk_alloc HX7.out.1 _), (HX7.out.2.alloc (by omega) _).grown hgrow (by simp; omega) (fun j hj => ?_)⟩
          · have := (HA3.out _ e.symm).1; omega
          · have := (HA3.out _ hj).1; omega
        clear hown' hgrow hown HM7 HX7 HM6 HX6 HO6
        obtain ⟨s0, s1, s2, s3, s4, s5, s6, s7, sz⟩ := blk_facts HX8.out.1
        go_wp2_with fail
        refine (HBits.out _ (HT.out.below HX8.out.2 HT.out.pos)).mono ?_
        rintro e w8 ⟨v8, rfl, hown, hb⟩
        obtain ⟨a8, c8, rfl⟩ := own_form hown
        have hz8 := hb.size
        have HO9 := Lib.hid hown
        have HM9 : Hid (w8.ownsRow w2.heap.size 3 1 (.slice a3 xs.length c3) xs.length (xs.map (Value.int .i64))) := own_below HM8.out hb
        have HX9 : Hid (Below w.heap.size w w8) := HX8.out.2.trans (hb.mono (by omega))
        clear hb hown HX8 HM8 s0 s1 s2 s3 s4 s5 s6 s7 sz
        go_wp2_with fail
        obtain ⟨a8', c8', e8, hi8, hn8⟩ := own_ints HO9.out
        obtain ⟨rfl, rfl⟩ : a8 = a8' ∧ c8 = c8' := by simpa using e8
        obtain ⟨a3', c3', e3, hi3, hn9⟩ := own_ints HM9.out
        obtain ⟨rfl, rfl⟩ : a3 = a3' ∧ c3 = c3' := by simpa using e3
        refine (ints_any _ _ _ _ _ _ xs xs _ hi8 hi3 hn8 hn9).mono ?_
        rintro e w9 ⟨rfl, hb⟩
        have HX10 : Hid (Below w.heap.size w w9) := HX9.out.trans (hb.mono (by omega))
        clear hb hi8 hi3 e8 e3
        go_wp2_with fail
        go_ret
        exact ⟨ret_bool (by simp), HX10.out⟩
end Go.Proofs.YtcnkoiogfhggeaaDoor
