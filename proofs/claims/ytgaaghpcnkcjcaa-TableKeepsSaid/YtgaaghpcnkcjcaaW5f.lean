/- The walk of TableKeeps. -/
import Derived.Test.YtgaaghpcnkcjcaaW5e
namespace Go.Proofs.Ytgaaghpcnkcjcaa
open Go.RowKit
set_option linter.unusedVariables false
/-- Whether a list has a number among its first so many. -/
def hasN (l : List Int) (c : Int) (k : Nat) : Bool := (List.range k).any fun j => slotAt l j == c
theorem hasN_succ (l : List Int) (c : Int) (k : Nat) : hasN l c (k + 1) = (hasN l c k || slotAt l k == c) := by
  unfold hasN
  rw [List.range_succ, List.any_append]
  simp
theorem hasN_all {st : TS} (c : Int) : hasN (st.rows.map (·.1)) c st.rows.length = getB st c := by
  rw [Bool.eq_iff_iff, getB_mem]
  unfold hasN
  rw [List.any_eq_true]
  have e : ∀ j, j < st.rows.length → slotAt (st.rows.map (·.1)) j = cellAt st.rows j := by
    intro j hj
    unfold slotAt cellAt
    rw [List.getD_eq_getElem?_getD, List.getElem?_map, List.getD_eq_getElem?_getD, List.getElem?_eq_getElem hj]; rfl
  constructor
  · rintro ⟨j, hj, h⟩
    rw [List.mem_range] at hj
    exact ⟨j, hj, by rw [← e j hj]; simpa using h⟩
  · rintro ⟨j, hj, h⟩
    exact ⟨j, List.mem_range.2 hj, by rw [e j hj]; simpa using h⟩
def KeepSt (w : World) (t n : Nat) (cv : Value) (st : TS) (F : Nat → Prop) (wr : World) : Prop :=
  Inv st ∧ st.most = n ∧ TabObj wr t st F ∧ Below w.heap.size w wr ∧ (∀ b, F b → w.heap.size ≤ b) ∧ ∀ b, F b → cv.ownBlock ≠ some b
theorem keep_put {w wr wr' w3 : World} {t n N : Nat} {cv : Value} {xs : List Value} {st : TS} {F : Nat → Prop} {c v x : Int} {e : Ending} (hK : KeepSt w t n cv st F wr) (ho : wr.ownsRow w.heap.size 3 1 cv N xs) (hb2 : Below wr.heap.size wr wr')
    (h : TabPut wr' t F (putT st c v) x e w3) : e = .returned (.int .i64 x) ∧ w.heap.size ≤ w3.heap.size ∧ ∃ F', KeepSt w t n cv (putT st c v) F' w3 ∧ w3.ownsRow w.heap.size 3 1 cv N xs ∧ ∀ b, F' b → b < w3.heap.size := by
  obtain ⟨hI, hm, hT, hb, hf, hd⟩ := hK
  obtain ⟨he, F', hT', hC, h1⟩ := h
  have z := hb.size
  have z2 := hb2.size
  have z3 := hC.size
  refine ⟨he, by omega, F', ⟨putT_inv hI c v, (putT_most _ _ _).trans hm, hT', (hb.trans (hb2.mono z)).trans (hC.below hf (by omega)), fun b h => ?_, fun b h hc => ?_⟩, own_chg (own_calm ho hb2) hC (fun b hb hF => hd b hF hb), fun b hb => hT'.lt hb⟩
  · rcases h1 b h with h | h
    · exact hf b h
    · omega
  · rcases h1 b h with h | h
    · exact hd b h hc
    · have := (ho.lt b hc).2; omega
set_option maxRecDepth 100000 in
set_option maxHeartbeats 8000000 in
theorem tableKeeps_law {w : World} (m : Int) (wm : (Lit.int .i64 m).wf = true) (a : Option Addr) (len cap : Nat) (q : Nat → Nat → Int) (hg : Grid w a len 2 q) (hlc : len ≤ cap) (hcm : cap ≤ maxLen) (hq : ∀ i j, (Lit.int .i64 (q i j)).wf = true)
    (d : Int) (wd : (Lit.int .i64 d).wf = true) :
    Calls Try.prog 4 #[.int .i64 m, .slice a len cap, .int .i64 d] w fun e w' => e = .returned (.bool true) ∧ Below w.heap.size w w' := by
  obtain ⟨i0, hi, hI0, hI1, hI2⟩ := info_parts infoInt5
  have HG := Lib.hid hg
  unfold maxLen at hcm
  clear wm hg hq wd
  by_cases hm : m < 1 ∨ 24 < m
  · have HM := Lib.hid hm
    rcases hm with hm | hm
    · go_enter Try.func4, Try.ntmps4
      go_wp2_with fail
      refine (tabNew_bad m HM.out _).mono ?_; rintro e w1 ⟨rfl, rfl⟩
      go_wp2_with fail
      go_ret
      exact ⟨rfl, Below.refl _ _⟩
    · have hm0 : ¬ m < 1 := by omega
      have hmd : decide (m < 1) = false := by simpa using hm0
      go_enter Try.func4, Try.ntmps4
      go_wp2_with fail
      refine (tabNew_bad m HM.out _).mono ?_; rintro e w1 ⟨rfl, rfl⟩
      go_wp2_with fail
      go_ret
      exact ⟨by simp, Below.refl _ _⟩
  · obtain ⟨n, rfl⟩ : ∃ n : Nat, m = n := ⟨m.toNat, by omega⟩
    have h1 : 1 ≤ n := by omega
    have h2 : n ≤ 24 := by omega
    clear hm
    go_enter Try.func4, Try.ntmps4
    go_wp2_with fail
    refine (tabNew_any n h1 h2 _).mono ?_; rintro e w1 ⟨t, F, rfl, hT, hb1, hf1⟩
    have H1 := Lib.hid (And.intro hT (And.intro hb1 hf1))
    clear hT hb1 hf1
    go_wp2_with fail
    go_loopw [8, 9, 10, 11, 12, 13, 14, 15] (fun _ cv th la i _ _ _ wr => ∃ (k : Nat) (st : TS) (F : Nat → Prop), k ≤ len ∧ i = .int .i64 k ∧ th = .bool (getB st d) ∧ la = .int .i64 (getV st d) ∧ w.heap.size ≤ wr.heap.size ∧ wr.ownsRow w.heap.size 3 1 cv st.rows.length ((st.rows.map (·.1)).map (Value.int .i64)) ∧ Hid (KeepSt w t n cv st F wr)) (fun _ _ _ _ i _ _ _ _ => len - (intOf i).toNat)
    case atStart => exact ⟨0, newT n, F, by omega, rfl, rfl, rfl, H1.out.2.1.size, World.ownsRow_nil _ _ _ _, newT_inv n h1 h2, rfl, H1.out.1, H1.out.2.1, H1.out.2.2, fun b _ => by simp [Value.ownBlock]⟩
    case round =>
      obtain ⟨k, st, F, hk, rfl, rfl, rfl, hsz, hown, HK⟩ := hrel
      obtain ⟨ca, cc, rfl⟩ := ownAt_form hown
      have hrl : st.rows.length ≤ 24 := Nat.le_trans HK.out.1.full HK.out.1.m2
      have HO := Lib.hid hown
      clear hown
      obtain ⟨wo, rfl⟩ : ∃ wo : World, wo = wr := ⟨_, rfl⟩
      by_cases hlt : k < len
      · obtain ⟨b, off, rfl, hbw, hcell⟩ := HG.out.resolve_left (by omega)
        have c0 := (HK.out.2.2.2.1.cell (p := ⟨b, off + k * 2 + 0, none⟩) hbw).trans (hcell k hlt 0 (by omega))
        have c1 := (HK.out.2.2.2.1.cell (p := ⟨b, off + k * 2 + 1, none⟩) hbw).trans (hcell k hlt 1 (by omega))
        have hbo : b < wo.heap.size := by omega
        simp only [Nat.add_zero] at c0
        generalize q k 0 = c at *
        generalize q k 1 = v at *
        have HC0 := Lib.hid c0
        have HC1 := Lib.hid c1
        have HA := Lib.hid (hasN_all (st := st) c)
        have HPE := Lib.hid (putE_iff st c)
        have HLM : Hid ((st.rows.map (·.1)).length = st.rows.length) := List.length_map _
        clear hcell c0 c1
        go_wp2_with fail
        go_loopw [13, 14] (fun kb i wr => ∃ j : Nat, j ≤ st.rows.length ∧ i = .int .i64 j ∧ kb = .bool (hasN (st.rows.map (·.1)) c j) ∧ Hid (Below wo.heap.size wo wr)) (fun _ i _ => st.rows.length - (intOf i).toNat)
        case atStart => exact ⟨0, by omega, rfl, rfl, Below.refl _ _⟩
        case round =>
          obtain ⟨j, hj, rfl, rfl, HB⟩ := hrel
          have d0 : wr.cell? ⟨b, off + k * 2, none⟩ = some (.int .i64 c) := (HB.out.cell (p := ⟨b, off + k * 2, none⟩) hbo).trans HC0.out
          have d1 : wr.cell? ⟨b, off + k * 2 + 1, none⟩ = some (.int .i64 v) := (HB.out.cell (p := ⟨b, off + k * 2 + 1, none⟩) hbo).trans HC1.out
          by_cases hltj : j < st.rows.length
          · obtain ⟨g, c', he, hx, hf⟩ := slots_cells (own_zero (own_calm HO.out HB.out)) j hltj
            obtain ⟨rfl, rfl⟩ := slice_inj he
            have HS := Lib.hid (hasN_succ (st.rows.map (·.1)) c j)
            clear he hf
            generalize hasN (st.rows.map (·.1)) c j = kb at *
            generalize slotAt (st.rows.map (·.1)) j = x at *
            cases kb
            · by_cases hxc : x = c
              · have hb1 : (x == c) = true := by simp [hxc]
                rw [hb1] at HS
                clear hxc
                go_wp2_with fail
                go_quiet (fail)
                go_wp2_with fail
                go_roundw
                case rel => exact ⟨j + 1, by omega, by go_num, by rw [HS.out]; rfl, HB.out.trans (below_drewN (Below.refl _ _) _)⟩
                case measure => simp [intOf]; omega
              · have hb1 : (x == c) = false := by simp [hxc]
                rw [hb1] at HS
                clear hxc
                go_wp2_with fail
                go_quiet (fail)
                go_wp2_with fail
                go_roundw
                case rel => exact ⟨j + 1, by omega, by go_num, by rw [HS.out]; rfl, HB.out.trans (below_drewN (Below.refl _ _) _)⟩
                case measure => simp [intOf]; omega
            · go_wp2_with fail
              go_quiet (fail)
              go_wp2_with fail
              go_roundw
              case rel => exact ⟨j + 1, by omega, by go_num, by rw [HS.out]; rfl, HB.out.trans (below_drewN (Below.refl _ _) _)⟩
              case measure => simp [intOf]; omega
          · obtain rfl : j = st.rows.length := by omega
            rw [HA.out]
            obtain ⟨wi, rfl⟩ : ∃ wi : World, wi = wr := ⟨_, rfl⟩
            have HT := Lib.hid (HK.out.2.2.1.calm (HB.out.trans (Below.drew (Below.refl _ _))))
            have HPUT : Hid (∀ (x : Int) (e : Ending) (w3 : World), TabPut wi.drew t F (putT st c v) x e w3 → e = .returned (.int .i64 x) ∧ w.heap.size ≤ w3.heap.size ∧ ∃ F', KeepSt w t n (.slice ca st.rows.length cc) (putT st c v) F' w3 ∧ w3.ownsRow w.heap.size 3 1 (.slice ca st.rows.length cc) st.rows.length ((st.rows.map (·.1)).map (Value.int .i64)) ∧ ∀ b, F' b → b < w3.heap.size) :=
              fun x e w3 h => keep_put HK.out HO.out (HB.out.trans (Below.drew (Below.refl _ _))) h
            have HRE := Lib.hid (put_refused (st := st) c v)
            have HBW : Hid (∀ (w3 : World) (F' : Nat → Prop) (st' : TS), KeepSt w t n (.slice ca st.rows.length cc) st' F' w3 → b < w.heap.size → w3.cell? ⟨b, off + k * 2, none⟩ = some (.int .i64 c) ∧ w3.cell? ⟨b, off + k * 2 + 1, none⟩ = some (.int .i64 v)) := fun w3 F' st' h hbw =>
              ⟨(h.2.2.2.1.cell (p := ⟨b, off + k * 2, none⟩) hbw).trans ((HK.out.2.2.2.1.cell (p := ⟨b, off + k * 2, none⟩) hbw).symm.trans HC0.out), (h.2.2.2.1.cell (p := ⟨b, off + k * 2 + 1, none⟩) hbw).trans ((HK.out.2.2.2.1.cell (p := ⟨b, off + k * 2 + 1, none⟩) hbw).symm.trans HC1.out)⟩
            have HRP : Hid (0 ≤ c ∧ c < 1024 → putE st c = 0 → getB (putT st c v) d = (getB st d || decide (d = c)) ∧ getV (putT st c v) d = if d = c then v else getV st d) := fun h1 h2 => rowOf_put c v d h1 h2
            have HPC : Hid (0 ≤ c ∧ c < 1024 → putE st c = 0 → (putT st c v).rows.map (·.1) = if getB st c then st.rows.map (·.1) else st.rows.map (·.1) ++ [c]) := fun h1 h2 => put_cells c v h1 h2
            have HI := Lib.hid HK.out.1
            have HMO := Lib.hid HK.out.2.1
            generalize hPE : putE st c = pe at *
            generalize hST : putT st c v = st2 at *
            have HPEQ := Lib.hid hPE
            have HSTQ := Lib.hid hST
            have HCALL : Hid (Calls Try.prog 10 #[.pointer (some ⟨t, 0, none⟩), .int .i64 c, .int .i64 v] wi.drew (TabPut wi.drew t F st2 pe)) := by
              rw [← hPE, ← hST]
              exact tabPut_any st HI.out t F _ HT.out c v
            obtain ⟨th, HTH⟩ : ∃ x, Hid (getB st d = x) := ⟨_, rfl⟩
            obtain ⟨la, HLA⟩ : ∃ x, Hid (getV st d = x) := ⟨_, rfl⟩
            obtain ⟨kn, HKN⟩ : ∃ x, Hid (getB st c = x) := ⟨_, rfl⟩
            rw [HTH.out, HLA.out, HKN.out]
            rw [HKN.out] at HPE HPC
            rw [HTH.out, HLA.out] at HRP
            clear hPE hST
            by_cases hfit : 0 ≤ c ∧ c < 1024
            · obtain ⟨hf0, hf1⟩ := hfit
              cases kn
              · by_cases hroom : st.rows.length < n
                · obtain rfl : pe = 0 := HPE.out.2 ⟨⟨hf0, hf1⟩, .inr (by rw [HMO.out]; exact hroom)⟩
                  have hroomI : (st.rows.length : Int) < n := by omega
                  have HR1 := Lib.hid (HRP.out ⟨hf0, hf1⟩ rfl)
                  have HR2 := Lib.hid (HPC.out ⟨hf0, hf1⟩ rfl)
                  simp only [Bool.false_eq_true, if_false] at HR2
                  clear HRP HPC HPE
                  go_wp2_with fail
                  go_still_tail 11, (by kernel_rfl)
                  change wpList _ _ _ _ _ wi.drew
                  go_wp2_with fail
                  refine HCALL.out.mono ?_
                  intro e w3 hput
                  obtain ⟨rfl, hsz3, F', hK3, hown, hF3⟩ := HPUT.out _ _ _ hput
                  obtain ⟨f0, f1⟩ := HBW.out _ _ _ hK3 hbw
                  have HK3 := Lib.hid hK3
                  have HF3 := Lib.hid hF3
                  clear hput hK3 hF3 d0 d1
                  go_wp2_with (at_builtin; refine wpList_append_own_at _ rfl (.tmp 100) (.tmp 106) 30 rfl w.heap.size 3 i0 (.int .i64 0) 1 8 Try.underlying30 hi hI0 hI1 hI2 rfl (by decide) _ _ _ rfl (hown.alloc _) ⟨w3.heap.size, 0, none⟩ 1 1 [.int .i64 c] rfl rfl ?c1 ?c2 ?c3 ?c4 ?c5 ?_)
                  case c1 => exact cell_one_new _ _ _
                  case c2 => intro u hu; simp at hu; subst hu; rfl
                  case c3 => unfold maxLen; omega
                  case c4 => omega
                  case c5 => simp; omega
                  · intro cv' w4 hown' hgrow _ hwhere
                    obtain ⟨a', c', rfl⟩ := ownAt_form hown'
                    have hz4 := hgrow.size
                    simp only [World.size_alloc] at hz4
                    have HLEN : Hid (st2.rows.length = st.rows.length + 1) := by
                      show _ = _
                      have h := congrArg List.length HR2.out
                      simpa using h
                    have HO4 : Hid (w4.ownsRow w.heap.size 3 1 (.slice a' (st.rows.length + 1) c') (st.rows.length + 1) ((st2.rows.map (·.1)).map (Value.int .i64))) := by
                      show World.ownsRow _ _ _ _ _ _ _
                      rw [HR2.out, List.map_append, List.map_map]
                      exact hown'
                    have HK4 : Hid (KeepSt w t n (.slice a' (st.rows.length + 1) c') st2 F' w4) := by
                      obtain ⟨p1, p2, p3, p4, p5, p6⟩ := HK3.out
                      refine ⟨p1, p2, (p3.calm (w' := w3.alloc _) ((Below.refl _ _).alloc (Nat.le_refl _) _)).chg (Chg.grown hgrow) (fun b hb e => p6 b hb e), (p4.alloc hsz3 _).grown hgrow (by simp; omega) (fun k hk => (hown.lt k hk).1), p5, fun b hb e => ?_⟩
                      rcases hwhere with h | h
                      · exact p6 b hb (h.symm.trans e)
                      · rw [h] at e
                        have := HF3.out b hb
                        simp at e
                        omega
                    have f2 : w4.cell? ⟨b, off + k * 2, none⟩ = some (.int .i64 c) := (HK4.out.2.2.2.1.cell (p := ⟨b, off + k * 2, none⟩) hbw).trans ((HK.out.2.2.2.1.cell (p := ⟨b, off + k * 2, none⟩) hbw).symm.trans HC0.out)
                    have f3 : w4.cell? ⟨b, off + k * 2 + 1, none⟩ = some (.int .i64 v) := (HK4.out.2.2.2.1.cell (p := ⟨b, off + k * 2 + 1, none⟩) hbw).trans ((HK.out.2.2.2.1.cell (p := ⟨b, off + k * 2 + 1, none⟩) hbw).symm.trans HC1.out)
                    clear hown hown' hgrow hwhere f0 f1
                    by_cases hcd : c = d
                    · have hb1 : (c == d) = true := by simp [hcd]
                      have HCD := Lib.hid hcd
                      clear hcd
                      go_wp2_with fail
                      go_roundw
                      case rel => exact ⟨k + 1, st2, F', by omega, by go_num, by rw [HR1.out.1, HCD.out]; simp, by rw [HR1.out.2, if_pos HCD.out.symm], by omega, by rw [HLEN.out]; exact HO4.out, HK4.out⟩
                      case measure => simp [intOf]; omega
                    · have hb1 : (c == d) = false := by simp [hcd]
                      have HCD := Lib.hid hcd
                      clear hcd
                      go_wp2_with fail
                      go_roundw
                      case rel => exact ⟨k + 1, st2, F', by omega, by go_num, by rw [HR1.out.1, decide_eq_false (fun e => HCD.out e.symm), Bool.or_false], by rw [HR1.out.2, if_neg (fun e => HCD.out e.symm)], by omega, by rw [HLEN.out]; exact HO4.out, HK4.out⟩
                      case measure => simp [intOf]; omega
                · have hroomI : ¬ (st.rows.length : Int) < n := by omega
                  have hpe : pe ≠ 0 := fun e => by
                    have h := HPE.out.1 e
                    rw [HMO.out] at h
                    rcases h.2 with h | h
                    · cases h
                    · exact hroom h
                  have hpb : (pe == 0) = false := by simp [hpe]
                  have hpb2 : (pe != 0) = true := by simp [hpe]
                  have HS2 := Lib.hid (HRE.out hpe)
                  clear hpe HRP HPC HPE
                  go_wp2_with fail
                  go_still_tail 11, (by kernel_rfl)
                  change wpList _ _ _ _ _ wi.drew
                  go_wp2_with fail
                  refine HCALL.out.mono ?_
                  intro e w3 hput
                  obtain ⟨rfl, hsz3, F', hK3, hown, hF3⟩ := HPUT.out _ _ _ hput
                  obtain ⟨f0, f1⟩ := HBW.out _ _ _ hK3 hbw
                  have HK3 := Lib.hid hK3
                  have HF3 := Lib.hid hF3
                  clear hput hK3 hF3 d0 d1 f0 f1
                  have HO3 := Lib.hid hown
                  clear hown
                  go_wp2_with fail
                  go_roundw
                  case rel => exact ⟨k + 1, st, F', by omega, by go_num, by rw [HTH.out], by rw [HLA.out], by omega, HO3.out, by have h := HK3.out; rw [HS2.out] at h; exact h⟩
                  case measure => simp [intOf]; omega
              · obtain rfl : pe = 0 := HPE.out.2 ⟨⟨hf0, hf1⟩, .inl rfl⟩
                have HR1 := Lib.hid (HRP.out ⟨hf0, hf1⟩ rfl)
                have HR2 := Lib.hid (HPC.out ⟨hf0, hf1⟩ rfl)
                simp only [if_true] at HR2
                clear HRP HPC HPE
                go_wp2_with fail
                go_still_tail 11, (by kernel_rfl)
                change wpList _ _ _ _ _ wi.drew
                go_wp2_with fail
                refine HCALL.out.mono ?_
                intro e w3 hput
                obtain ⟨rfl, hsz3, F', hK3, hown, hF3⟩ := HPUT.out _ _ _ hput
                obtain ⟨f0, f1⟩ := HBW.out _ _ _ hK3 hbw
                have HK3 := Lib.hid hK3
                have HF3 := Lib.hid hF3
                have HLEN : Hid (st2.rows.length = st.rows.length) := by
                  show _ = _
                  have h := congrArg List.length HR2.out
                  simpa using h
                have HO4 : Hid (w3.ownsRow w.heap.size 3 1 (.slice ca st.rows.length cc) st.rows.length ((st2.rows.map (·.1)).map (Value.int .i64))) := by
                  show World.ownsRow _ _ _ _ _ _ _
                  rw [HR2.out]
                  exact hown
                clear hput hK3 hF3 d0 d1 hown
                by_cases hcd : c = d
                · have hb1 : (c == d) = true := by simp [hcd]
                  have HCD := Lib.hid hcd
                  clear hcd
                  go_wp2_with fail
                  go_roundw
                  case rel => exact ⟨k + 1, st2, F', by omega, by go_num, by rw [HR1.out.1, HCD.out]; simp, by rw [HR1.out.2, if_pos HCD.out.symm], by omega, by rw [HLEN.out]; exact HO4.out, HK3.out⟩
                  case measure => simp [intOf]; omega
                · have hb1 : (c == d) = false := by simp [hcd]
                  have HCD := Lib.hid hcd
                  clear hcd
                  go_wp2_with fail
                  go_roundw
                  case rel => exact ⟨k + 1, st2, F', by omega, by go_num, by rw [HR1.out.1, decide_eq_false (fun e => HCD.out e.symm), Bool.or_false], by rw [HR1.out.2, if_neg (fun e => HCD.out e.symm)], by omega, by rw [HLEN.out]; exact HO4.out, HK3.out⟩
                  case measure => simp [intOf]; omega
            · have hpe : pe ≠ 0 := fun e => hfit (HPE.out.1 e).1
              have hpb : (pe == 0) = false := by simp [hpe]
              have hpb2 : (pe != 0) = true := by simp [hpe]
              have HS2 := Lib.hid (HRE.out hpe)
              clear hpe HRP HPC HPE
              by_cases hf0 : 0 ≤ c
              · have hf1 : ¬ c < 1024 := fun h => hfit ⟨hf0, h⟩
                clear hfit
                go_wp2_with fail
                go_still_tail 11, (by kernel_rfl)
                change wpList _ _ _ _ _ wi.drew
                go_wp2_with fail
                refine HCALL.out.mono ?_
                intro e w3 hput
                obtain ⟨rfl, hsz3, F', hK3, hown, hF3⟩ := HPUT.out _ _ _ hput
                obtain ⟨f0, f1⟩ := HBW.out _ _ _ hK3 hbw
                have HK3 := Lib.hid hK3
                have HF3 := Lib.hid hF3
                clear hput hK3 hF3 d0 d1 f0 f1
                have HO3 := Lib.hid hown
                clear hown
                go_wp2_with fail
                go_roundw
                case rel => exact ⟨k + 1, st, F', by omega, by go_num, by rw [HTH.out], by rw [HLA.out], by omega, HO3.out, by have h := HK3.out; rw [HS2.out] at h; exact h⟩
                case measure => simp [intOf]; omega
              · clear hfit
                go_wp2_with fail
                go_still_tail 11, (by kernel_rfl)
                change wpList _ _ _ _ _ wi.drew
                go_wp2_with fail
                refine HCALL.out.mono ?_
                intro e w3 hput
                obtain ⟨rfl, hsz3, F', hK3, hown, hF3⟩ := HPUT.out _ _ _ hput
                obtain ⟨f0, f1⟩ := HBW.out _ _ _ hK3 hbw
                have HK3 := Lib.hid hK3
                have HF3 := Lib.hid hF3
                clear hput hK3 hF3 d0 d1 f0 f1
                have HO3 := Lib.hid hown
                clear hown
                go_wp2_with fail
                go_roundw
                case rel => exact ⟨k + 1, st, F', by omega, by go_num, by rw [HTH.out], by rw [HLA.out], by omega, HO3.out, by have h := HK3.out; rw [HS2.out] at h; exact h⟩
                case measure => simp [intOf]; omega
      · obtain rfl : k = len := by omega
        have HT := Lib.hid HK.out.2.2.1
        have HI := Lib.hid HK.out.1
        obtain ⟨th, HTH⟩ : ∃ x, Hid (getB st d = x) := ⟨_, rfl⟩
        obtain ⟨la, HLA⟩ : ∃ x, Hid (getV st d = x) := ⟨_, rfl⟩
        rw [HTH.out, HLA.out]
        go_wp2_with fail
        refine (tabGet_obj st HI.out t F _ HT.out d).mono ?_
        rw [HTH.out, HLA.out]
        rintro e w2 ⟨rfl, hb⟩
        have HB := Lib.hid hb
        clear hb
        go_wp2_with fail
        refine (tabLen_obj st t F _ (HT.out.calm HB.out)).mono ?_
        rintro e w3 ⟨rfl, rfl⟩
        go_wp2_with fail
        go_ret
        exact ⟨ret_bool (by simp), HK.out.2.2.2.1.trans (HB.out.mono hsz)⟩
end Go.Proofs.Ytgaaghpcnkcjcaa
