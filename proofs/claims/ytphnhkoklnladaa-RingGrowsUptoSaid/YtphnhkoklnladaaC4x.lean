/- Layer 4: the reference's Entries. -/
import Derived.Test.YtphnhkoklnladaaC4w
namespace Go.Proofs.Ytphnhkoklnladaa
open Go.RowKit Go.Shelf
set_option linter.unusedVariables false
/-- The round's entry. -/
abbrev EB (W Wt : World) (x m : Int) (f : Nat → Int) : Prop := Below W.heap.size W Wt ∧ Wt.heap[W.heap.size]? = some (.cells #[.int .i64 x, .int .i64 m, .int .u64 (f 0), .int .u64 (f 1), .int .u64 (f 2), .int .u64 (f 3), .int .u64 (f 4), .int .u64 (f 5), .int .u64 (f 6), .int .u64 (f 7)] 39)
theorem EB.calm {W Wt Wu : World} {x m : Int} {f : Nat → Int} (h : EB W Wt x m f) (hb : Below Wt.heap.size Wt Wu) : EB W Wu x m f := ⟨h.1.trans (hb.mono h.1.size), (hb.block _ (Array.getElem?_eq_some_iff.1 h.2).1).trans h.2⟩
theorem EB.mark {W Wt : World} {x m : Int} {f : Nat → Int} (h : EB W Wt x m f) (m' : Int) : EB W (Wt.setCell ⟨W.heap.size, 1, none⟩ (.int .i64 m')) x m' f := ⟨h.1.setCell (p := ⟨W.heap.size, 1, none⟩) (Nat.le_refl _) _, (heapSet_eq _ _ _ _ _ _ _ h.2).trans (by simp)⟩
theorem EB.sig {W Wt : World} {x m : Int} {f : Nat → Int} (h : EB W Wt x m f) (s : Nat → Int) : EB W ((((((((Wt.setCell ⟨W.heap.size, 2, none⟩ (.int .u64 (s 0))).setCell ⟨W.heap.size, 3, none⟩ (.int .u64 (s 1))).setCell ⟨W.heap.size, 4, none⟩ (.int .u64 (s 2))).setCell ⟨W.heap.size, 5, none⟩ (.int .u64 (s 3))).setCell ⟨W.heap.size, 6, none⟩ (.int .u64 (s 4))).setCell ⟨W.heap.size, 7, none⟩ (.int .u64 (s 5))).setCell ⟨W.heap.size, 8, none⟩ (.int .u64 (s 6))).setCell ⟨W.heap.size, 9, none⟩ (.int .u64 (s 7))) x m s := by
  constructor
  · have hb : ∀ (i : Nat), W.heap.size ≤ (⟨W.heap.size, i, none⟩ : Addr).block := fun i => Nat.le_refl _
    exact (((((((h.1.setCell (hb 2) _).setCell (hb 3) _).setCell (hb 4) _).setCell (hb 5) _).setCell (hb 6) _).setCell (hb 7) _).setCell (hb 8) _).setCell (hb 9) _
  · exact (heapSet_eq _ _ _ _ _ _ _ (heapSet_eq _ _ _ _ _ _ _ (heapSet_eq _ _ _ _ _ _ _ (heapSet_eq _ _ _ _ _ _ _ (heapSet_eq _ _ _ _ _ _ _ (heapSet_eq _ _ _ _ _ _ _ (heapSet_eq _ _ _ _ _ _ _ (heapSet_eq _ _ _ _ _ _ _ h.2)))))))).trans (by simp)
/-- The row of entries so far. -/
def RowE (w : World) (l : List Acc) (ring : Nat) (n : Int) (v : Value) (k : Nat) (W : World) : Prop := W.ownsRow w.heap.size 39 10 v k (entsR l ring ((stampsL n ring).take k)) ∧ Below w.heap.size w W
theorem RowE.calm {w W W' : World} {l : List Acc} {ring : Nat} {n : Int} {v : Value} {k : Nat} (h : RowE w l ring n v k W) (hb : Below W.heap.size W W') : RowE w l ring n v k W' := ⟨own_calm h.1 hb, h.2.trans (hb.mono h.2.size)⟩
theorem stampsL_take {n : Int} {size j : Nat} (h : j < manyR n size) : (stampsL n size).take (j + 1) = (stampsL n size).take j ++ [n - manyR n size + 1 + j] := by
  have hx : (stampsL n size)[j]? = some (n - manyR n size + 1 + j) := by simp [stampsL, h]
  rw [List.take_add_one, hx]; rfl
set_option maxHeartbeats 2000000 in
theorem refEntries_any (r ring cells : Nat) (h1 : 1 ≤ ring) (h2 : ring ≤ 16) (l : List Acc) (hlen : l.length ≤ 100000000000) (hok : OkW l) (w : World) (F : Nat → Prop) (hO : RMemH r ring cells l w F) : Calls Try.prog 29 #[.pointer (some ⟨r, 0, none⟩)] w fun e w' => ∃ v, e = .returned v ∧ w'.ownsRow w.heap.size 39 10 v (stampsL (wordOf l 1 0 0) ring).length (entsR l ring (stampsL (wordOf l 1 0 0) ring)) ∧ Below w.heap.size w w' := by
  obtain ⟨i0, hi, hz0, hz1, hz2⟩ := info_parts infoEnt
  obtain ⟨n, hn⟩ : ∃ n, wordOf l 1 0 0 = n := ⟨_, rfl⟩
  have hI : I64 n := by rw [← hn]; exact hok _ _ _
  have HN := Lib.hid (refNewest_any r ring cells l hlen w F hO)
  rw [hn] at HN
  have HF := Lib.hid (fun w1 (hn1 : 1 ≤ n) (hb : Below w.heap.size w w1) => refFirst_any r ring cells h1 h2 l hlen n hn hI hn1 w1 F ((RMemH.good _ _ _ _).calm hO hb))
  have HH := Lib.hid (fun w1 s (hb : Below w.heap.size w w1) => refHead_word r ring cells l hlen s w1 F ((RMemH.good _ _ _ _).calm hO hb))
  have HG := Lib.hid (fun w1 s (hb : Below w.heap.size w w1) => refSig_any r ring cells l hlen s w1 F ((RMemH.good _ _ _ _).calm hO hb))
  have HV := Lib.hid (fun s w => refOver_any (wordOf l 2 (slotZ s ring) 0) s (hok _ _ _) w)
  have HL := Lib.hid (fun s w => refLaid_any (wordOf l 2 (slotZ s ring) 0) s (hok _ _ _) w)
  obtain ⟨hI1, hI2⟩ := hI
  rw [hn]
  clear hO hn
  by_cases hlt : n < 1
  · have HNL : Hid (stampsL n ring = []) := by
      show _ = _
      apply List.eq_nil_of_length_eq_zero
      rw [stampsL_len]; unfold manyR; omega
    rw [HNL.out]
    go_enter Try.func29, Try.ntmps29
    go_wp2_with fail
    refine HN.out.mono ?_; rintro e w1 ⟨rfl, hb⟩
    have HB := Lib.hid hb
    clear hb HN
    go_wp2_with fail
    go_ret
    exact ⟨_, rfl, World.ownsRow_nil _ _ _ _, HB.out⟩
  · have hn1 : 1 ≤ n := by omega
    have hm1 : (manyR n ring : Int) ≤ n := by unfold manyR; omega
    have hm2 : (manyR n ring : Int) ≤ 16 := by unfold manyR; omega
    have HD := Lib.hid (fun j h => stampsL_take (n := n) (size := ring) (j := j) h)
    have HZ := Lib.hid (stampsL_len n ring)
    generalize manyR n ring = m at *
    go_enter Try.func29, Try.ntmps29
    go_wp2_with fail
    refine HN.out.mono ?_; rintro e w1 ⟨rfl, hb⟩
    have HB := Lib.hid hb
    clear hb HN
    go_wp2_with fail
    refine (HF.out _ hn1 HB.out).mono ?_; rintro e w2 ⟨rfl, hb⟩
    have HB2 := Lib.hid (HB.out.trans (hb.mono HB.out.size))
    clear hb HF HB
    go_wp2_with fail
    go_loopw [4, 6] (fun v i wr => ∃ k : Nat, k ≤ m ∧ i = .int .i64 k ∧ Hid (RowE w l ring n v k wr)) (fun _ i _ => m - (intOf i).toNat)
    case atStart => exact ⟨0, by omega, rfl, World.ownsRow_nil _ _ _ _, HB2.out⟩
    case round =>
      rename_i v _
      obtain ⟨k, hk, rfl, HR⟩ := hrel
      by_cases hkm : k < m
      · have HDK := Lib.hid (HD.out k hkm)
        have hk1 : (k : Int) < m := by omega
        go_wp2_with fail
        rw [show n - (n - (n - (m : Int))) + 1 + k = n - m + 1 + k by omega]
        have hxl : 0 ≤ n - (m : Int) + 1 + k := by omega
        have hxh : n - (m : Int) + 1 + k ≤ n := by omega
        generalize n - (m : Int) + 1 + k = x at *
        have HEB0 : Hid (EB wr (wr.alloc (.cells #[.int .i64 x, .int .i64 1, .int .u64 0, .int .u64 0, .int .u64 0, .int .u64 0, .int .u64 0, .int .u64 0, .int .u64 0, .int .u64 0] 39)) x 1 (fun _ => 0)) := ⟨(Below.refl _ _).alloc (Nat.le_refl _) _, heapAlloc _ _⟩
        refine (HH.out _ x (HR.out.calm HEB0.out.1).2).mono ?_; rintro e W1 ⟨rfl, hb⟩
        have HXB := Lib.hid (HEB0.out.calm hb)
        clear hb HEB0
        have HLx := Lib.hid (HL.out x)
        have HVx := Lib.hid (HV.out x)
        obtain ⟨la, HLA⟩ : ∃ la, Hid (laidB (wordOf l 2 (slotZ x ring) 0) x = la) := ⟨_, rfl⟩
        obtain ⟨ox, HOV⟩ : ∃ ox, Hid (overB (wordOf l 2 (slotZ x ring) 0) x = ox) := ⟨_, rfl⟩
        rw [HLA.out] at HLx
        rw [HOV.out] at HVx
        go_wp2_with fail
        refine (HLx.out W1).mono ?_; rintro e w' ⟨rfl, rfl⟩
        go_wp2_with fail
        refine (HVx.out W1).mono ?_; rintro e w' ⟨rfl, rfl⟩
        cases la
        · cases ox
          · have HENT : Hid (entR l ring x = entC x 1 (fun _ => 0)) := by
              show _ = _
              unfold entR mkR ovR ldR
              rw [HOV.out, HLA.out]
              rfl
            have HEC := Lib.hid (HXB.out)
            have HRE := Lib.hid (HR.out.calm HEC.out.1)
            have hrow := HRE.out.1
            have hsz := HRE.out.2.size
            obtain ⟨y0, y1, y2, y3, y4, y5, y6, y7, y8, y9, yz⟩ := ten_cells HXB.out.2
            go_wp2_with (at_builtin; refine wpList_append_own_at _ rfl (.tmp 50) (.tmp 52) 33 rfl w.heap.size 39 i0 (.agg #[.int .i64 0, .int .i64 0, .int .u64 0, .int .u64 0, .int .u64 0, .int .u64 0, .int .u64 0, .int .u64 0, .int .u64 0, .int .u64 0]) 10 80 Try.underlying33 hi hz0 hz1 hz2 rfl (by decide) _ _ _ rfl (hrow.alloc _) ⟨W1.heap.size, 0, none⟩ 1 1 (entC x 1 (fun _ => 0)) rfl rfl ?c1 ?c2 ?c3 ?c4 ?c5 ?_)
            case c1 => exact ten_at _ _ _ _ _ _ (by simp)
            case c2 => exact entC_one _ _ _
            case c3 => unfold maxLen; omega
            case c4 => omega
            case c5 => rw [World.size_alloc]; exact Nat.le_succ_of_le hsz
            · intro v' w9 hown' hgrow _ _
              have hb9 := ((Below.refl w.heap.size _).alloc hsz _).grown hgrow (by rw [World.size_alloc]; exact Nat.le_succ_of_le hsz) (fun j hj => (hrow.lt j hj).1)
              have HNX : Hid (RowE w l ring n v' (k + 1) w9) := by
                refine ⟨?_, HRE.out.2.trans hb9⟩
                rw [HDK.out, entsR_snoc, HENT.out]
                exact hown'
              clear hown' hgrow hrow hb9
              go_wp2_with fail
              go_roundw
              case rel => exact ⟨k + 1, by omega, by go_num, HNX.out⟩
              case measure => simp [intOf]; omega
          · have HENT : Hid (entR l ring x = entC x 3 (fun _ => 0)) := by
              show _ = _
              unfold entR mkR ovR ldR
              rw [HOV.out, HLA.out]
              rfl
            have HEC := Lib.hid (HXB.out.mark 3)
            have HRE := Lib.hid (HR.out.calm HEC.out.1)
            have hrow := HRE.out.1
            have hsz := HRE.out.2.size
            obtain ⟨y0, y1, y2, y3, y4, y5, y6, y7, y8, y9, yz⟩ := ten_cells HXB.out.2
            go_wp2_with (at_builtin; refine wpList_append_own_at _ rfl (.tmp 50) (.tmp 52) 33 rfl w.heap.size 39 i0 (.agg #[.int .i64 0, .int .i64 0, .int .u64 0, .int .u64 0, .int .u64 0, .int .u64 0, .int .u64 0, .int .u64 0, .int .u64 0, .int .u64 0]) 10 80 Try.underlying33 hi hz0 hz1 hz2 rfl (by decide) _ _ _ rfl (hrow.alloc _) ⟨W1.heap.size, 0, none⟩ 1 1 (entC x 3 (fun _ => 0)) rfl rfl ?c1 ?c2 ?c3 ?c4 ?c5 ?_)
            case c1 => exact ten_at _ _ _ _ _ _ (by simp)
            case c2 => exact entC_one _ _ _
            case c3 => unfold maxLen; omega
            case c4 => omega
            case c5 => rw [World.size_alloc]; exact Nat.le_succ_of_le hsz
            · intro v' w9 hown' hgrow _ _
              have hb9 := ((Below.refl w.heap.size _).alloc hsz _).grown hgrow (by rw [World.size_alloc]; exact Nat.le_succ_of_le hsz) (fun j hj => (hrow.lt j hj).1)
              have HNX : Hid (RowE w l ring n v' (k + 1) w9) := by
                refine ⟨?_, HRE.out.2.trans hb9⟩
                rw [HDK.out, entsR_snoc, HENT.out]
                exact hown'
              clear hown' hgrow hrow hb9
              go_wp2_with fail
              go_roundw
              case rel => exact ⟨k + 1, by omega, by go_num, HNX.out⟩
              case measure => simp [intOf]; omega
        · have HXB2 := Lib.hid (HXB.out.mark 2)
          obtain ⟨z0, z1, z2, z3, z4, z5, z6, z7, z8, z9, zz⟩ := ten_cells HXB.out.2
          go_wp2_with fail
          refine (HG.out _ x (HR.out.calm HXB2.out.1).2).mono ?_; rintro e W5 ⟨rfl, hb⟩
          clear HXB z0 z1 z2 z3 z4 z5 z6 z7 z8 z9 zz
          have HXB := Lib.hid (HXB2.out.calm hb)
          clear hb HXB2
          cases ox
          · have HENT : Hid (entR l ring x = entC x 2 (sgR l ring x)) := by
              show _ = _
              unfold entR mkR ovR ldR
              rw [HOV.out, HLA.out]
              rfl
            have HEC := Lib.hid (HXB.out.sig (sgR l ring x))
            have HRE := Lib.hid (HR.out.calm HEC.out.1)
            have hrow := HRE.out.1
            have hsz := HRE.out.2.size
            obtain ⟨y0, y1, y2, y3, y4, y5, y6, y7, y8, y9, yz⟩ := ten_cells HXB.out.2
            go_wp2_with (at_builtin; refine wpList_append_own_at _ rfl (.tmp 50) (.tmp 52) 33 rfl w.heap.size 39 i0 (.agg #[.int .i64 0, .int .i64 0, .int .u64 0, .int .u64 0, .int .u64 0, .int .u64 0, .int .u64 0, .int .u64 0, .int .u64 0, .int .u64 0]) 10 80 Try.underlying33 hi hz0 hz1 hz2 rfl (by decide) _ _ _ rfl (hrow.alloc _) ⟨W5.heap.size, 0, none⟩ 1 1 (entC x 2 (sgR l ring x)) rfl rfl ?c1 ?c2 ?c3 ?c4 ?c5 ?_)
            case c1 => exact ten_at _ _ _ _ _ _ (by simp)
            case c2 => exact entC_one _ _ _
            case c3 => unfold maxLen; omega
            case c4 => omega
            case c5 => rw [World.size_alloc]; exact Nat.le_succ_of_le hsz
            · intro v' w9 hown' hgrow _ _
              have hb9 := ((Below.refl w.heap.size _).alloc hsz _).grown hgrow (by rw [World.size_alloc]; exact Nat.le_succ_of_le hsz) (fun j hj => (hrow.lt j hj).1)
              have HNX : Hid (RowE w l ring n v' (k + 1) w9) := by
                refine ⟨?_, HRE.out.2.trans hb9⟩
                rw [HDK.out, entsR_snoc, HENT.out]
                exact hown'
              clear hown' hgrow hrow hb9
              go_wp2_with fail
              go_roundw
              case rel => exact ⟨k + 1, by omega, by go_num, HNX.out⟩
              case measure => simp [intOf]; omega
          · have HENT : Hid (entR l ring x = entC x 3 (sgR l ring x)) := by
              show _ = _
              unfold entR mkR ovR ldR
              rw [HOV.out, HLA.out]
              rfl
            have HEC := Lib.hid ((HXB.out.sig (sgR l ring x)).mark 3)
            have HRE := Lib.hid (HR.out.calm HEC.out.1)
            have hrow := HRE.out.1
            have hsz := HRE.out.2.size
            obtain ⟨y0, y1, y2, y3, y4, y5, y6, y7, y8, y9, yz⟩ := ten_cells HXB.out.2
            go_wp2_with (at_builtin; refine wpList_append_own_at _ rfl (.tmp 50) (.tmp 52) 33 rfl w.heap.size 39 i0 (.agg #[.int .i64 0, .int .i64 0, .int .u64 0, .int .u64 0, .int .u64 0, .int .u64 0, .int .u64 0, .int .u64 0, .int .u64 0, .int .u64 0]) 10 80 Try.underlying33 hi hz0 hz1 hz2 rfl (by decide) _ _ _ rfl (hrow.alloc _) ⟨W5.heap.size, 0, none⟩ 1 1 (entC x 3 (sgR l ring x)) rfl rfl ?c1 ?c2 ?c3 ?c4 ?c5 ?_)
            case c1 => exact ten_at _ _ _ _ _ _ (by simp)
            case c2 => exact entC_one _ _ _
            case c3 => unfold maxLen; omega
            case c4 => omega
            case c5 => rw [World.size_alloc]; exact Nat.le_succ_of_le hsz
            · intro v' w9 hown' hgrow _ _
              have hb9 := ((Below.refl w.heap.size _).alloc hsz _).grown hgrow (by rw [World.size_alloc]; exact Nat.le_succ_of_le hsz) (fun j hj => (hrow.lt j hj).1)
              have HNX : Hid (RowE w l ring n v' (k + 1) w9) := by
                refine ⟨?_, HRE.out.2.trans hb9⟩
                rw [HDK.out, entsR_snoc, HENT.out]
                exact hown'
              clear hown' hgrow hrow hb9
              go_wp2_with fail
              go_roundw
              case rel => exact ⟨k + 1, by omega, by go_num, HNX.out⟩
              case measure => simp [intOf]; omega
      · obtain rfl : k = m := by omega
        have HO : Hid ((stampsL n ring).take k = stampsL n ring) := by
          show _ = _
          rw [← HZ.out]; exact List.take_length
        go_wp2_with fail
        go_ret
        refine ⟨_, rfl, ?_, HR.out.2⟩
        have h := HR.out.1
        rw [HO.out] at h
        rw [HZ.out]
        exact h
end Go.Proofs.Ytphnhkoklnladaa
