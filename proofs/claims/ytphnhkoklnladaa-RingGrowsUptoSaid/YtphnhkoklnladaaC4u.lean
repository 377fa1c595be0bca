/- Layer 4: Entries. -/
import Derived.Test.YtphnhkoklnladaaS4r
import Derived.Sort.CutIn
namespace Go.Proofs.Ytphnhkoklnladaa
open Go.RowKit Go.Shelf
set_option linter.unusedVariables false
attribute [local go_sem] Oper.semAt_some
/-- The round's entry at b. -/
abbrev EBox (W Wt : World) (x m : Int) (f : Nat → Int) : Prop := Below W.heap.size W Wt ∧ Wt.heap[W.heap.size]? = some (.cells #[.int .i64 x, .int .i64 m, .int .u64 (f 0), .int .u64 (f 1), .int .u64 (f 2), .int .u64 (f 3), .int .u64 (f 4), .int .u64 (f 5), .int .u64 (f 6), .int .u64 (f 7)] 39)
theorem EBox.calm {W Wt Wu : World} {x m : Int} {f : Nat → Int} (h : EBox W Wt x m f) (hb : Below Wt.heap.size Wt Wu) : EBox W Wu x m f := ⟨h.1.trans (hb.mono h.1.size), (hb.block _ (Array.getElem?_eq_some_iff.1 h.2).1).trans h.2⟩
theorem EBox.mark {W Wt : World} {x m : Int} {f : Nat → Int} (h : EBox W Wt x m f) (m' : Int) : EBox W (Wt.setCell ⟨W.heap.size, 1, none⟩ (.int .i64 m')) x m' f := ⟨h.1.setCell (p := ⟨W.heap.size, 1, none⟩) (Nat.le_refl _) _, (heapSet_eq _ _ _ _ _ _ _ h.2).trans (by simp)⟩
def upTo (j : Nat) (f : Nat → Int) : Nat → Int := fun k => if k < j then f k else 0
theorem EBox.word {W Wt : World} {x m : Int} {f : Nat → Int} {j : Nat} (h : EBox W Wt x m (upTo j f)) (hj : j < 8) : EBox W (Wt.setCell ⟨W.heap.size, 2 + j, none⟩ (.int .u64 (f j))) x m (upTo (j + 1) f) := by
  refine ⟨h.1.setCell (p := ⟨W.heap.size, 2 + j, none⟩) (Nat.le_refl _) _, (heapSet_eq _ _ _ _ _ _ _ h.2).trans ?_⟩
  match j, hj with
  | 0, _ => rfl
  | 1, _ => rfl
  | 2, _ => rfl
  | 3, _ => rfl
  | 4, _ => rfl
  | 5, _ => rfl
  | 6, _ => rfl
  | 7, _ => rfl
theorem EBox.at {W Wt : World} {x m : Int} {f : Nat → Int} {j : Nat} (h : EBox W Wt x m f) (hj : j < 8) : Wt.cell? ⟨W.heap.size, 2 + j, none⟩ = some (.int .u64 (f j)) ∧ ∀ o, Wt.frozen? ⟨W.heap.size, o, none⟩ = false := by
  obtain ⟨_, _, z2, z3, z4, z5, z6, z7, z8, z9, zz⟩ := ten_cells h.2
  refine ⟨?_, zz⟩
  match j, hj with
  | 0, _ => exact z2
  | 1, _ => exact z3
  | 2, _ => exact z4
  | 3, _ => exact z5
  | 4, _ => exact z6
  | 5, _ => exact z7
  | 6, _ => exact z8
  | 7, _ => exact z9
theorem EBox.full {W Wt : World} {x m : Int} {f : Nat → Int} (h : EBox W Wt x m (upTo 8 f)) : EBox W Wt x m f := h
/-- What the loop keeps. -/
def EntI (w : World) (p ring : Nat) (n : Int) (sb B1 B2 : Nat) (l : List Acc) (pre : List Int) (W : World) : Prop :=
  (Boxed W w.heap.size 25 (.pointer (some ⟨p, 0, none⟩)) ∧ Boxed W sb 3 (.int .i64 ring)) ∧ (Boxed W B1 2 (.int .i64 n) ∧ Boxed W B2 3 (.int .i64 ring)) ∧
  (∃ v, Boxed W (w.heap.size + 1) 33 v ∧ W.ownsRow w.heap.size 39 10 v pre.length (entsR l ring pre) ∧ True) ∧ Below w.heap.size w W
theorem EntI.own (w : World) (p ring : Nat) (n : Int) (sb B1 B2 : Nat) (l : List Acc) (B : Nat) (hB : w.heap.size ≤ B) : OwnFrom B (EntI w p ring n sb B1 B2 l) :=
  OwnFrom.and (OwnFrom.and (Own.from (boxed_own _ _ _) _) (Own.from (boxed_own _ _ _) _)) (OwnFrom.and (OwnFrom.and (Own.from (boxed_own _ _ _) _) (Own.from (boxed_own _ _ _) _))
    (OwnFrom.and (Own.from (holdsRow_own w.heap.size (w.heap.size + 1) 33 39 10 (fun pre => pre.length) (fun pre => entsR l ring pre) (fun _ _ => True)) _) (ownFrom_below (Nat.le_refl _) hB)))
theorem EntI.calm {w W W' : World} {p ring : Nat} {n : Int} {sb B1 B2 : Nat} {l : List Acc} {pre : List Int} (h : EntI w p ring n sb B1 B2 l pre W) (hb : Below W.heap.size W W') : EntI w p ring n sb B1 B2 l pre W' := by
  obtain ⟨⟨a1, a2⟩, ⟨a3, a4⟩, ⟨v, a5, a6, _⟩, a7⟩ := h
  exact ⟨⟨(hb.block _ a1.lt).trans a1, (hb.block _ a2.lt).trans a2⟩, ⟨(hb.block _ a3.lt).trans a3, (hb.block _ a4.lt).trans a4⟩, ⟨v, (hb.block _ a5.lt).trans a5, own_calm a6 hb, trivial⟩, a7.trans (hb.mono a7.size)⟩
theorem EntI.kp {w W W' : World} {p ring : Nat} {n : Int} {sb B1 B2 : Nat} {l : List Acc} {pre : List Int} (h : EntI w p ring n sb B1 B2 l pre W) (hb : Below W.heap.size W W') : KpS w.heap.size B1 B2 W W' := by
  obtain ⟨⟨a1, a2⟩, ⟨a3, a4⟩, ⟨v, a5, a6, _⟩, a7⟩ := h
  exact ⟨hb.mono a7.size, hb.block _ a3.lt, hb.block _ a4.lt⟩
/-- The list has grown. -/
theorem EntI.append {w W w1 : World} {p ring : Nat} {n : Int} {sb B1 B2 : Nat} {l : List Acc} {pre : List Int} {x : Int} {v v' : Value} {tmp : Obj} (h : EntI w p ring n sb B1 B2 l pre W) (hs : w.heap.size + 1 < sb) (hs1 : w.heap.size + 1 < B1) (hs2 : w.heap.size + 1 < B2)
    (hv : Boxed W (w.heap.size + 1) 33 v) (hrow : W.ownsRow w.heap.size 39 10 v pre.length (entsR l ring pre)) (hown : w1.ownsRow w.heap.size 39 10 v' (pre.length + 1) (entsR l ring pre ++ entR l ring x)) (hgrow : (W.alloc tmp).grownBy w1 v.ownBlock) :
    KeepsOthers W (w1.setCell ⟨w.heap.size + 1, 0, none⟩ v') ∧ KpS w.heap.size B1 B2 W (w1.setCell ⟨w.heap.size + 1, 0, none⟩ v') ∧ EntI w p ring n sb B1 B2 l (pre ++ [x]) (w1.setCell ⟨w.heap.size + 1, 0, none⟩ v') := by
  obtain ⟨⟨a1, a2⟩, ⟨a3, a4⟩, _, a7⟩ := h
  obtain ⟨b1, b2, b3, b4, b5⟩ := hv.appended (v' := v') (by decide) hrow a7.size (Nat.le_succ _) hown hgrow
  have hk : ∀ {B : Nat} {t : TypeId} {u : Value}, Boxed W B t u → t ≠ 39 → B ≠ w.heap.size + 1 → Boxed (w1.setCell ⟨w.heap.size + 1, 0, none⟩ v') B t u := fun hb ht hne => ((hb.alloc tmp).kept hgrow (hb.not_row ht hrow)).other hne _
  have k3 := hk a3 (by decide) (by omega)
  have k4 := hk a4 (by decide) (by omega)
  refine ⟨b4, ⟨b5, k3.trans a3.symm, k4.trans a4.symm⟩, ⟨hk a1 (by decide) (by omega), hk a2 (by decide) (by omega)⟩, ⟨k3, k4⟩, ⟨v', b2, ?_, trivial⟩, a7.trans b5⟩
  rw [entsR_snoc, List.length_append]
  exact b3
/-- Entries has answered. -/
def EntsGot (w : World) (l : List Acc) (ring : Nat) (e : Ending) (w' : World) : Prop := ∃ v, e = .returned v ∧ w'.ownsRow w.heap.size 39 10 v (stampsL (wordOf l 1 0 0) ring).length (entsR l ring (stampsL (wordOf l 1 0 0) ring)) ∧ Below w.heap.size w w'
set_option maxRecDepth 100000 in
set_option maxHeartbeats 4000000 in
theorem entries_any (p ring cells : Nat) (h1 : 1 ≤ ring) (h2 : ring ≤ 16) (l : List Acc) (hok : OkW l) (w : World) (F : Nat → Prop) (hO : MemH p ring cells l w F) : Calls Try.prog 11 #[.pointer (some ⟨p, 0, none⟩)] w (EntsGot w l ring) := by
  obtain ⟨i0, hi, hz0, hz1, hz2⟩ := info_parts infoEnt
  have HZ := Lib.hid (fun w1 (hb : Below w.heap.size w w1) => sizes_any p ring cells l w1 F ((MemH.good _ _ _ _).calm hO hb))
  have HST := Lib.hid (fun w1 (hb : Below w.heap.size w w1) => stamps_any p ring cells l w1 F ((MemH.good _ _ _ _).calm hO hb))
  have HHD := Lib.hid (fun w1 s (hb : Below w.heap.size w w1) => head_any p ring cells h1 h2 l s w1 F ((MemH.good _ _ _ _).calm hO hb))
  have HPK := Lib.hid (fun w1 s (j : Nat) (hj : j < 8) (hb : Below w.heap.size w w1) => peek_in p ring cells l 3 (slotZ s ring) j (.inr (.inr (.inl ⟨rfl, slotZ_lt s ring (by omega) (by omega), by omega, by omega⟩))) w1 F ((MemH.good _ _ _ _).calm hO hb))
  have HE : Hid (∀ e w', EntsGot w l ring e w' = ∃ v, e = .returned v ∧ w'.ownsRow w.heap.size 39 10 v (stampsL (wordOf l 1 0 0) ring).length (entsR l ring (stampsL (wordOf l 1 0 0) ring)) ∧ Below w.heap.size w w') := fun _ _ => rfl
  obtain ⟨n, hn⟩ : ∃ n, wordOf l 1 0 0 = n := ⟨_, rfl⟩
  have HI : Hid (I64 n) := by rw [← hn]; exact hok _ _ _
  rw [hn] at HST HE
  clear hO hn
  refine (callsIn_wide (n := 5)).1 ?_
  refine callsIn_of_wp_marks Try.func11 rfl trivial ?_ rfl
  simp only [Try.ntmps11, List.size_toArray, List.length_cons, List.length_nil, Nat.reduceAdd, Nat.reduceSub, Array.replicate_succ, Array.replicate_zero, List.push_toArray, List.append_toArray, List.nil_append, List.cons_append]
  gi_wp2_with fail
  have HB0 : Hid (Below w.heap.size w ((w.alloc (.cells #[.pointer (some ⟨p, 0, none⟩)] 25)).alloc (.cells #[.slice none 0 0] 33))) := ((Below.refl _ _).alloc (Nat.le_refl _) _).alloc (by simp) _
  have X0 := Lib.hid ((Boxed.new w 25 (.pointer (some ⟨p, 0, none⟩))).alloc (.cells #[.slice none 0 0] 33))
  have V0 := Lib.hid (Boxed.new (w.alloc (.cells #[.pointer (some ⟨p, 0, none⟩)] 25)) 33 (.slice none 0 0))
  rw [World.size_alloc] at V0
  refine ⟨trivial, ?_⟩
  refine (callsIn_wide.2 (HZ.out _ HB0.out)).mono ?_; rintro e w1 ⟨rfl, hb⟩
  have HB1 := Lib.hid (HB0.out.trans (hb.mono HB0.out.size))
  have X1 : Hid (Boxed w1 w.heap.size 25 (.pointer (some ⟨p, 0, none⟩))) := (hb.block _ X0.out.lt).trans X0.out
  have V1 : Hid (Boxed w1 (w.heap.size + 1) 33 (.slice none 0 0)) := (hb.block _ V0.out.lt).trans V0.out
  have x1 := X1.out.cell
  have x1l := X1.out.lt
  have HB1a : Hid (Below w.heap.size w (w1.alloc (.cells #[.int .i64 ring] 3))) := HB1.out.alloc HB1.out.size _
  have X1a := Lib.hid (X1.out.alloc (.cells #[.int .i64 ring] 3))
  have V1a := Lib.hid (V1.out.alloc (.cells #[.int .i64 ring] 3))
  have S1a := Lib.hid (Boxed.new w1 3 (.int .i64 ring))
  have v1l := V1.out.lt
  clear hb X0 HB0 V0 X1 V1 HB1 HZ
  gi_wp2_with fail
  refine ⟨trivial, ?_⟩
  refine (callsIn_wide.2 (HST.out _ HB1a.out)).mono ?_
  rintro e w4 ⟨B1, B2, rfl, hb1, hb2, hb, hl1, hl2⟩
  have HB4 := Lib.hid (HB1a.out.trans (hb.mono HB1a.out.size))
  have X4 : Hid (Boxed w4 w.heap.size 25 (.pointer (some ⟨p, 0, none⟩))) := (hb.block _ X1a.out.lt).trans X1a.out
  have V4 : Hid (Boxed w4 (w.heap.size + 1) 33 (.slice none 0 0)) := (hb.block _ V1a.out.lt).trans V1a.out
  have S4 : Hid (Boxed w4 w1.heap.size 3 (.int .i64 ring)) := (hb.block _ S1a.out.lt).trans S1a.out
  rw [World.size_alloc] at hl1 hl2
  clear hb X1a V1a S1a HB1a x1 HST
  gi_wp2_with fail
  have HSZ : Hid (w.heap.size ≤ w4.heap.size) := HB4.out.size
  have h1s : w.heap.size + 1 < w1.heap.size := v1l
  have h1b : w.heap.size + 1 < B1 := by omega
  have h2b : w.heap.size + 1 < B2 := by omega
  have HI0 : Hid (EntI w p ring n w1.heap.size B1 B2 l [] w4) := ⟨⟨X4.out, S4.out⟩, ⟨hb1, hb2⟩, ⟨_, V4.out, World.ownsRow_nil _ _ _ _, trivial⟩, HB4.out⟩
  refine wpIn_rangeFunc_ownF rfl (by omega) (gf := 34) (lb := #[.pointer (some ⟨B1, 0, none⟩), .pointer (some ⟨B2, 0, none⟩)]) rfl trivial (enters_of Try.func34 (by kernel_rfl) rfl) (stamps_stops Fence.wide _ trivial rfl (by omega) w.heap.size B1 B2 n HI.out ring h1 h2 _ hb1 hb2) (fun h k => KpS.t h k) (KpS.b HSZ.out hb1.lt hb2.lt) (Below.refl _ _) (fun _ => rfl)
    (EntI w p ring n w1.heap.size B1 B2 l) (fun _ _ _ => False) (EntI.own w p ring n w1.heap.size B1 B2 l _ HSZ.out) (fun _ _ _ _ _ hs _ _ => hs) HI0.out
    (fun x => { tmps := #[.pointer (some ⟨p, 0, none⟩), .pointer (some ⟨w.heap.size, 0, none⟩), .slice none 0 0, .pointer (some ⟨w.heap.size + 1, 0, none⟩), .int .i64 cells, .pointer (some ⟨w1.heap.size, 0, none⟩), .int .i64 x, undef, undef, undef, undef, undef, .tuple #[.int .i64 cells, .int .i64 ring], .pointer (some ⟨p, 0, none⟩), .tuple #[.int .i64 cells, .int .i64 ring], .int .i64 cells, .int .i64 ring, .pointer (some ⟨p, 0, none⟩), .func (.func 34) #[] #[.pointer (some ⟨B1, 0, none⟩), .pointer (some ⟨B2, 0, none⟩)], .int .i64 x, undef, undef, undef, undef, undef, undef, undef, undef, undef, undef, undef, undef, undef, undef, undef, undef, undef, undef, undef, undef, undef, undef, undef, undef, undef, undef, undef, undef, undef, undef, undef, undef, undef, undef, undef, undef, undef], defers := [] }) ?assign ?body ?done ?stop
  case assign =>
    intro lp x W K hK
    gi_wp2
    exact hK
  case body =>
    rintro lp pre x W hEI hlen
    have HEI := Lib.hid hEI
    have x0 := hEI.1.1.cell
    have x0l := hEI.1.1.lt
    clear hEI X4 V4 S4 hb1 hb2 HB4 HI0
    gi_wp2_with fail
    have hl16 : pre.length < 17 := by
      rw [stampsL_len] at hlen
      unfold manyR at hlen
      omega
    have HEB0 : Hid (EBox W (W.alloc (.cells #[.int .i64 x, .int .i64 1, .int .u64 0, .int .u64 0, .int .u64 0, .int .u64 0, .int .u64 0, .int .u64 0, .int .u64 0, .int .u64 0] 39)) x 1 (fun _ => 0)) := ⟨(Below.refl _ _).alloc (Nat.le_refl _) _, heapAlloc _ _⟩
    refine ⟨trivial, ?_⟩
    refine (CallsIn.inRound lp (callsIn_wide.2 (HHD.out _ x ((HEI.out.calm HEB0.out.1).2.2.2)))).mono ?_; rintro e W1 ⟨rfl, hb⟩
    have HEB := Lib.hid (HEB0.out.calm hb)
    clear hb HEB0 x0
    gi_wp2_with fail
    refine ⟨trivial, ?_⟩
    refine (CallsIn.inRound lp (callsIn_wide.2 (laid_any _ x W1))).mono ?_; rintro e W' ⟨rfl, rfl⟩
    generalize hla : laidB (wordOf l 2 (slotZ x ring) 0) x = la at *
    have HLA := Lib.hid hla
    clear hla
    cases la
    · -- not laid
      obtain ⟨z0, z1, z2, z3, z4, z5, z6, z7, z8, z9, zz⟩ := ten_cells HEB.out.2
      gi_wp2_with fail
      refine ⟨trivial, ?_⟩
      refine (CallsIn.inRound lp (callsIn_wide.2 (over_any _ x W1))).mono ?_; rintro e W' ⟨rfl, rfl⟩
      generalize hov : overB (wordOf l 2 (slotZ x ring) 0) x = ox at *
      cases ox
      · have HENT : Hid (entR l ring x = entC x 1 (fun _ => 0)) := by
          show _ = _
          unfold entR mkR ovR ldR
          rw [hov, HLA.out]
          rfl
        clear z0 z1 z2 z3 z4 z5 z6 z7 z8 z9 zz hov
        have HET := Lib.hid (HEI.out.calm HEB.out.1)
        obtain ⟨_, _, ⟨v, hv, hrow, _⟩, hbe⟩ := HET.out
        have hc := hv.cell
        have hsz := hbe.size
        obtain ⟨y0, y1, y2, y3, y4, y5, y6, y7, y8, y9, yz⟩ := ten_cells HEB.out.2
        gi_wp2_with (gi_at_builtin; refine wpListIn_append_own _ rfl _ _ 33 rfl w.heap.size 39 i0 (.agg #[.int .i64 0, .int .i64 0, .int .u64 0, .int .u64 0, .int .u64 0, .int .u64 0, .int .u64 0, .int .u64 0, .int .u64 0, .int .u64 0]) 10 80 Try.underlying33 hi hz0 hz1 hz2 rfl (by decide) _ _ _ rfl (hrow.alloc _) ⟨W1.heap.size, 0, none⟩ 1 1 (entC x 1 (fun _ => 0)) rfl rfl (ten_at _ _ _ _ _ _ (by first | rfl | simp)) (entC_one _ _ _) (by unfold maxLen; omega) (by omega) (by rw [World.size_alloc]; exact Nat.le_succ_of_le hsz) ?_; intro v' w9 hown' hgrow _; obtain ⟨g', cap', rfl⟩ := ownsRow_succ hown'; have hv1 := (hv.alloc _).kept hgrow (hv.not_row (by decide) hrow); have hc1 := hv1.cell; have hf1 := hv1.frozen)
        rw [← HENT.out] at hown'
        obtain ⟨r1, r2, r3⟩ := EntI.append HET.out h1s h1b h2b hv hrow hown' hgrow
        exact ⟨(keeps_below HEB.out.1).trans r1, (HEI.out.kp HEB.out.1).t r2, r3⟩
      · have HENT : Hid (entR l ring x = entC x 3 (fun _ => 0)) := by
          show _ = _
          unfold entR mkR ovR ldR
          rw [hov, HLA.out]
          rfl
        have HEC := Lib.hid (HEB.out.mark 3)
        clear hov
        have HET := Lib.hid (HEI.out.calm HEC.out.1)
        obtain ⟨_, _, ⟨v, hv, hrow, _⟩, hbe⟩ := HET.out
        have hc := hv.cell
        have hsz := hbe.size
        obtain ⟨y0, y1, y2, y3, y4, y5, y6, y7, y8, y9, yz⟩ := ten_cells HEC.out.2
        gi_wp2_with (gi_at_builtin; refine wpListIn_append_own _ rfl _ _ 33 rfl w.heap.size 39 i0 (.agg #[.int .i64 0, .int .i64 0, .int .u64 0, .int .u64 0, .int .u64 0, .int .u64 0, .int .u64 0, .int .u64 0, .int .u64 0, .int .u64 0]) 10 80 Try.underlying33 hi hz0 hz1 hz2 rfl (by decide) _ _ _ rfl (hrow.alloc _) ⟨W1.heap.size, 0, none⟩ 1 1 (entC x 3 (fun _ => 0)) rfl rfl (ten_at _ _ _ _ _ _ (by first | rfl | simp)) (entC_one _ _ _) (by unfold maxLen; omega) (by omega) (by rw [World.size_alloc]; exact Nat.le_succ_of_le hsz) ?_; intro v' w9 hown' hgrow _; obtain ⟨g', cap', rfl⟩ := ownsRow_succ hown'; have hv1 := (hv.alloc _).kept hgrow (hv.not_row (by decide) hrow); have hc1 := hv1.cell; have hf1 := hv1.frozen)
        rw [← HENT.out] at hown'
        obtain ⟨r1, r2, r3⟩ := EntI.append HET.out h1s h1b h2b hv hrow hown' hgrow
        exact ⟨(keeps_below HEC.out.1).trans r1, (HEI.out.kp HEC.out.1).t r2, r3⟩
    · -- laid
      obtain ⟨z0, z1, z2, z3, z4, z5, z6, z7, z8, z9, zz⟩ := ten_cells HEB.out.2
      have HEB2 : Hid (EBox W (W1.setCell ⟨W.heap.size, 1, none⟩ (.int .i64 2)) x 2 (upTo 0 (sgR l ring x))) := HEB.out.mark 2
      gi_wp2_with fail
      clear z0 z1 z2 z3 z4 z5 z6 z7 z8 z9 zz
      gi_loopw [29] (fun jv wr => ∃ j : Nat, j ≤ 8 ∧ jv = .int .i64 j ∧ Hid (EBox W wr x 2 (upTo j (sgR l ring x)))) (fun jv _ => 8 - (intOf jv).toNat)
      case atStart => exact ⟨0, by omega, rfl, HEB2.out⟩
      case round =>
        obtain ⟨j, hj, rfl, HEBj⟩ := hrel
        by_cases hj8 : j < 8
        · have hji : (j : Int) < 8 := by omega
          have hj0 : (0 : Int) ≤ j := by omega
          have HET := Lib.hid (HEI.out.calm HEBj.out.1)
          have e0 := HET.out.1.1.cell
          have e1 := HET.out.1.2.cell
          have e0l := HET.out.1.1.lt
          have e1l := HET.out.1.2.lt
          have hmx : Try.prog.follows .mixedOrders = true := by kernel_rfl
          gi_wp2_with fail
          gi_cut [10] from 99 (fun v wx => v = .int .i64 (wordOf l 3 (slotZ x ring) j) ∧ Hid (Below wr.heap.size wr wx))
          case first =>
            gi_region_with_o (first | (refine ⟨trivial, ?_⟩; gi_at_call 17; refine (CallsIn.inRound lp (callsIn_wide.2 (slot_any _ _ _))).mono ?_; rintro e W' ⟨rfl, rfl⟩) | (refine ⟨trivial, ?_⟩; gi_at_call 22; refine (CallsIn.inRound lp (callsIn_wide.2 (HPK.out _ x j hj8 (HET.out.2.2.2.drew)))).mono ?_; rintro e W5 ⟨rfl, hb5⟩; have HB5 := Lib.hid (((Below.refl wr.heap.size wr).drew).trans hb5)))
            all_goals
              gi_wp2
              gi_meet
              case rel => exact ⟨rfl, HB5.out⟩
          obtain ⟨rfl, HX⟩ := hcut
          have HEBk := Lib.hid (HEBj.out.calm HX.out)
          obtain ⟨hcj, hfj⟩ := HEBk.out.at hj8
          have HN := Lib.hid (HEBk.out.word hj8)
          clear e0 e1 e0l e1l
          gi_wp2
          go_roundw
          case rel => exact ⟨j + 1, by omega, by go_num, HN.out⟩
          case measure => simp [intOf]; omega
        · obtain rfl : j = 8 := by omega
          have HEF : Hid (EBox W wr x 2 (sgR l ring x)) := HEBj.out.full
          obtain ⟨z0, z1, z2, z3, z4, z5, z6, z7, z8, z9, zz⟩ := ten_cells HEF.out.2
          gi_wp2_with fail
          refine ⟨trivial, ?_⟩
          refine (CallsIn.inRound lp (callsIn_wide.2 (over_any _ x wr))).mono ?_; rintro e W' ⟨rfl, rfl⟩
          generalize hov : overB (wordOf l 2 (slotZ x ring) 0) x = ox at *
          cases ox
          · have HENT : Hid (entR l ring x = entC x 2 (sgR l ring x)) := by
              show _ = _
              unfold entR mkR ovR ldR
              rw [hov, HLA.out]
              rfl
            clear z0 z1 z2 z3 z4 z5 z6 z7 z8 z9 zz hov
            have HET := Lib.hid (HEI.out.calm HEF.out.1)
            obtain ⟨_, _, ⟨v, hv, hrow, _⟩, hbe⟩ := HET.out
            have hc := hv.cell
            have hsz := hbe.size
            obtain ⟨y0, y1, y2, y3, y4, y5, y6, y7, y8, y9, yz⟩ := ten_cells HEF.out.2
            gi_wp2_with (gi_at_builtin; refine wpListIn_append_own _ rfl _ _ 33 rfl w.heap.size 39 i0 (.agg #[.int .i64 0, .int .i64 0, .int .u64 0, .int .u64 0, .int .u64 0, .int .u64 0, .int .u64 0, .int .u64 0, .int .u64 0, .int .u64 0]) 10 80 Try.underlying33 hi hz0 hz1 hz2 rfl (by decide) _ _ _ rfl (hrow.alloc _) ⟨wr.heap.size, 0, none⟩ 1 1 (entC x 2 (sgR l ring x)) rfl rfl (ten_at _ _ _ _ _ _ (by first | rfl | simp)) (entC_one _ _ _) (by unfold maxLen; omega) (by omega) (by rw [World.size_alloc]; exact Nat.le_succ_of_le hsz) ?_; intro v' w9 hown' hgrow _; obtain ⟨g', cap', rfl⟩ := ownsRow_succ hown'; have hv1 := (hv.alloc _).kept hgrow (hv.not_row (by decide) hrow); have hc1 := hv1.cell; have hf1 := hv1.frozen)
            rw [← HENT.out] at hown'
            obtain ⟨r1, r2, r3⟩ := EntI.append HET.out h1s h1b h2b hv hrow hown' hgrow
            exact ⟨(keeps_below HEF.out.1).trans r1, (HEI.out.kp HEF.out.1).t r2, r3⟩
          · have HENT : Hid (entR l ring x = entC x 3 (sgR l ring x)) := by
              show _ = _
              unfold entR mkR ovR ldR
              rw [hov, HLA.out]
              rfl
            have HEC := Lib.hid (HEF.out.mark 3)
            clear hov
            have HET := Lib.hid (HEI.out.calm HEC.out.1)
            obtain ⟨_, _, ⟨v, hv, hrow, _⟩, hbe⟩ := HET.out
            have hc := hv.cell
            have hsz := hbe.size
            obtain ⟨y0, y1, y2, y3, y4, y5, y6, y7, y8, y9, yz⟩ := ten_cells HEC.out.2
            gi_wp2_with (gi_at_builtin; refine wpListIn_append_own _ rfl _ _ 33 rfl w.heap.size 39 i0 (.agg #[.int .i64 0, .int .i64 0, .int .u64 0, .int .u64 0, .int .u64 0, .int .u64 0, .int .u64 0, .int .u64 0, .int .u64 0, .int .u64 0]) 10 80 Try.underlying33 hi hz0 hz1 hz2 rfl (by decide) _ _ _ rfl (hrow.alloc _) ⟨wr.heap.size, 0, none⟩ 1 1 (entC x 3 (sgR l ring x)) rfl rfl (ten_at _ _ _ _ _ _ (by first | rfl | simp)) (entC_one _ _ _) (by unfold maxLen; omega) (by omega) (by rw [World.size_alloc]; exact Nat.le_succ_of_le hsz) ?_; intro v' w9 hown' hgrow _; obtain ⟨g', cap', rfl⟩ := ownsRow_succ hown'; have hv1 := (hv.alloc _).kept hgrow (hv.not_row (by decide) hrow); have hc1 := hv1.cell; have hf1 := hv1.frozen)
            rw [← HENT.out] at hown'
            obtain ⟨r1, r2, r3⟩ := EntI.append HET.out h1s h1b h2b hv hrow hown' hgrow
            exact ⟨(keeps_below HEC.out.1).trans r1, (HEI.out.kp HEC.out.1).t r2, r3⟩
  case done =>
    rintro D ys W hD rfl ⟨_, _, ⟨v, hv, hrow, _⟩, hB⟩ hK
    have hc := hv.cell
    have HB := Lib.hid hB
    have HR := Lib.hid hrow
    have hfrz := hv.frozen
    clear hB hrow
    gi_wp2
    refine ⟨by simp, .inl ⟨_, _, rfl, run_takeDeferred hK, ?_⟩⟩
    refine ⟨_, results_tmp rfl _ _ _, ?_⟩
    rw [HE.out]
    exact ⟨v, rfl, ownsRow_putObj HR.out _ hK rfl, HB.out.trans (belowK_b (w := w) (Nat.le_refl _) W D _ _ (by have := HSZ.out; omega) hK rfl rfl)⟩
  case stop =>
    rintro D c pre W hD hp hf hK
    exact hf.elim
end Go.Proofs.Ytphnhkoklnladaa
