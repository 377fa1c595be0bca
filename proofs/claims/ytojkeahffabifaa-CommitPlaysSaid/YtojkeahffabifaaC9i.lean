/- Layer 9: the reference's check machine inside a bigger struct: Next, Start, Step. -/
import Derived.Test.YtojkeahffabifaaC9h
import Derived.Test.YtojkeahffabifaaS8
import Derived.Test.YtojkeahffabifaaC4

import Derived.Test.YtojkeahffabifaaC3i
namespace Go.Proofs.Ytojkeahffabifaa
open Go.RowKit
set_option linter.unusedVariables false
/-- A plan. -/
def planV8 (p : Bool × Int × Int × Int × Int × Int × Int × Int) : Value := .agg #[.bool p.1, .int .i64 p.2.1, .int .i64 p.2.2.1, .int .i64 p.2.2.2.1, .int .i64 p.2.2.2.2.1, .int .i64 p.2.2.2.2.2.1, .int .i64 p.2.2.2.2.2.2.1, .int .i64 p.2.2.2.2.2.2.2]
/-- Next has answered. -/
def NextKGot (w : World) (p : Bool × Int × Int × Int × Int × Int × Int × Int) (e : Ending) (w' : World) : Prop := e = .returned (planV8 p) ∧ Below w.heap.size w w'
theorem eight_cells {w : World} {p : Nat} {a b c d e f g h : Value} {T : TypeId} (hh : w.heap[p]? = some (.cells #[a, b, c, d, e, f, g, h] T)) :
    w.cell? ⟨p, 0, none⟩ = some a ∧ w.cell? ⟨p, 1, none⟩ = some b ∧ w.cell? ⟨p, 2, none⟩ = some c ∧ w.cell? ⟨p, 3, none⟩ = some d ∧ w.cell? ⟨p, 4, none⟩ = some e ∧ w.cell? ⟨p, 5, none⟩ = some f ∧ w.cell? ⟨p, 6, none⟩ = some g ∧ w.cell? ⟨p, 7, none⟩ = some h ∧ ∀ o, w.frozen? ⟨p, o, none⟩ = false :=
  ⟨by simp [World.cell?, hh], by simp [World.cell?, hh], by simp [World.cell?, hh], by simp [World.cell?, hh], by simp [World.cell?, hh], by simp [World.cell?, hh], by simp [World.cell?, hh], by simp [World.cell?, hh], fun o => by simp [World.frozen?, hh]⟩
theorem set8_below {B : Nat} {w0 w : World} (h : Below B w0 w) {b : Nat} (hb : B ≤ b) (v0 v1 v2 v3 v4 v5 v6 v7 : Value) : Below B w0 ((((((((w.setCell ⟨b, 0, none⟩ v0).setCell ⟨b, 1, none⟩ v1).setCell ⟨b, 2, none⟩ v2).setCell ⟨b, 3, none⟩ v3).setCell ⟨b, 4, none⟩ v4).setCell ⟨b, 5, none⟩ v5).setCell ⟨b, 6, none⟩ v6).setCell ⟨b, 7, none⟩ v7) :=
  (((((((h.setCell hb _).setCell hb _).setCell hb _).setCell hb _).setCell hb _).setCell hb _).setCell hb _).setCell hb _
theorem nat_at {w : World} {v : Value} {ks : List Nat} (h : w.ownsRow 0 3 1 v ks.length (ks.map fun (k : Nat) => Value.int .i64 k)) {j m : Nat} (hx : ks[j]? = some m) : ∃ g c, v = .slice (some ⟨g, 0, none⟩) ks.length c ∧ w.cell? ⟨g, j, none⟩ = some (.int .i64 m) := by
  have hk : j < ks.length := (List.getElem?_eq_some_iff.1 hx).1
  obtain ⟨g, c, hv, _, _, hc, _, _⟩ := own_parts h (by omega)
  exact ⟨g, c, hv, (hc j (by omega)).trans (by rw [List.getElem?_map, hx]; rfl)⟩
theorem and_comm64 (a b : Int) : bits .and .u64 a b = bits .and .u64 b a := by
  unfold bits
  have e : BitVec.ofInt IntKind.u64.bits a &&& BitVec.ofInt IntKind.u64.bits b = BitVec.ofInt IntKind.u64.bits b &&& BitVec.ofInt IntKind.u64.bits a := BitVec.and_comm _ _
  simp only [e]
theorem words_zero (rs : Nat → Int) : (wordsF rs 0 = [] ↔ zeroS rs = true) := by
  rw [wordsF_next rs 0 (by decide)]
  have := nextW_le rs 0
  unfold zeroS
  split <;> simp <;> omega
/-- What the walk keeps. -/
structure NextKeep (T : TypeId) (f : Value → Array Value) (w w1 : World) (y g c bw : Nat) (size fr : Int) (rs : Nat → Int) (last : Bool) (L : List Int) (wv : Value) : Prop where
  hy : w1.heap[y]? = some (.cells (f (.slice (some ⟨g, 0, none⟩) L.length c)) T)
  hbx : w1.heap[bw]? = some (.cells #[.bool false, .int .i64 0, .int .i64 0, .int .i64 0, .int .i64 0, .int .i64 0, .int .i64 0, .int .i64 0] 149)
  ho : w1.ownsRow 0 2 1 (.slice (some ⟨g, 0, none⟩) L.length c) L.length (L.map (Value.int .i64))
  hw : w1.ownsRow 0 3 1 wv (wordsF rs 0).length ((wordsF rs 0).map fun (k : Nat) => Value.int .i64 k)
theorem NextKeep.calm {T : TypeId} {f : Value → Array Value} {w w1 wr : World} {y g c bw : Nat} {size fr : Int} {rs : Nat → Int} {last : Bool} {L : List Int} {wv : Value} (h : NextKeep T f w w1 y g c bw size fr rs last L wv) (hb : Below w1.heap.size w1 wr) : NextKeep T f w wr y g c bw size fr rs last L wv :=
  ⟨(hb.block y (heap_lt h.hy)).trans h.hy, (hb.block bw (heap_lt h.hbx)).trans h.hbx, own_calm h.ho hb, own_calm h.hw hb⟩
theorem rep_last {size : Nat} {fr : Int} {rs : Nat → Int} {last : Bool} {L : List Int} (h : RepOk size fr rs last L) {k : Nat} (hk : k ≤ L.length) {s : CS} {e : Int} (he : Rep size fr rs last (L.take k) = (s, e)) (h4 : 4 ≤ s.st) : Rep size fr rs last L = (s, e) := by
  have := h.last hk (by rw [he]; exact h4)
  rwa [this] at he
set_option maxRecDepth 100000 in
theorem rnext_nil {T : TypeId} {f : Value → Array Value} (y size : Nat) (hs1 : 1 ≤ size) (hs2 : size ≤ 16) (fr : Int) (hf : 0 ≤ fr) (rs : Nat → Int) (last : Bool) (hf3 : Off3 f size fr rs last) (w : World) (F : Nat → Prop) (h : RChkH T f y [] w F) :
    Calls Try.prog 78 #[.pointer (some ⟨y, 3, none⟩)] w (NextKGot w (planK size (Rep size fr rs last []))) := by
  obtain ⟨lv, h1, h2, h3, h4⟩ := h
  have hyl := heap_lt h1
  have hne : y ≠ w.heap.size := by omega
  obtain ⟨ga, gc, rfl⟩ := ownAt_form h2
  obtain ⟨c0, c1, rd, c10, c11, fz⟩ := rchk_cells hf3 h1
  clear h1 h2 h3 h4 rd
  go_enter Try.func78, Try.ntmps78
  go_wp2_with fail
  refine bodyPost_ret (v := _) (by simp [results, Try.results78, go_sem]; rfl) rfl ?_
  exact ⟨rfl, (Below.refl _ _).alloc (Nat.le_refl _) _⟩
set_option maxHeartbeats 16000000 in
set_option maxRecDepth 100000 in
theorem rnext_cons {T : TypeId} {f : Value → Array Value} (y size : Nat) (hs1 : 1 ≤ size) (hs2 : size ≤ 16) (fr : Int) (hf : 0 ≤ fr) (rs : Nat → Int) (last : Bool) (hf3 : Off3 f size fr rs last) (L : List Int) (n : Int) (hL0 : L[0]? = some n) (hL : ∀ x ∈ L, I64 x) (hlen : L.length ≤ 1000) (hok : RepOk size fr rs last L) (w : World) (F : Nat → Prop) (h : RChkH T f y L w F) :
    Calls Try.prog 78 #[.pointer (some ⟨y, 3, none⟩)] w (NextKGot w (planK size (Rep size fr rs last L))) := by
  obtain ⟨lv, h1, h2, h3, h4⟩ := h
  have hyl := heap_lt h1
  have hne : y ≠ w.heap.size := by omega
  obtain ⟨hn1, hn2⟩ := hL n (List.mem_of_getElem? hL0)
  obtain ⟨g, gc, rfl, l0⟩ := int_at h2 hL0
  obtain ⟨c0, c1, rd, c10, c11, fz⟩ := rchk_cells hf3 h1
  have hgl : g < w.heap.size := (h2.lt g rfl).2
  have d0 := rd 0 (by decide)
  have d1 := rd 1 (by decide)
  have d2 := rd 2 (by decide)
  have d3 := rd 3 (by decide)
  have d4 := rd 4 (by decide)
  have d5 := rd 5 (by decide)
  have d6 := rd 6 (by decide)
  have d7 := rd 7 (by decide)
  simp only [Nat.add_zero, Nat.reduceAdd] at d0 d1 d2 d3 d4 d5 d6 d7
  have H1 := Lib.hid h1
  have H2 := Lib.hid h2
  have HOK := Lib.hid hok
  have HLI := Lib.hid hL
  have HL0 := Lib.hid hL0
  have hl1 : 1 ≤ L.length := by have := (List.getElem?_eq_some_iff.1 hL0).1; omega
  have HT1 : Hid (Rep size fr rs last (L.take 1) = repStep size fr rs last (⟨0, fr, 0, 0, 0⟩, 0) n) := Rep_take hL0
  clear h1 h2 h3 h4 rd hok hL hL0
  obtain ⟨ln, hln⟩ : ∃ ln, L.length = ln := ⟨_, rfl⟩
  have HLN := Lib.hid hln
  rw [hln] at c11 hl1 hlen
  have hlnp : ((ln : Int) == 0) = false := by simp; omega
  clear hln
  go_enter Try.func78, Try.ntmps78
  go_wp2_with fail
  refine (words_any rs _).mono ?_
  rintro e w1 ⟨wv, rfl, how, hb⟩
  have hB0 : Below w.heap.size w w1 := ((Below.refl _ _).alloc (Nat.le_refl _) _).trans (hb.mono (by simp))
  have HB := Lib.hid hB0
  have HK : Hid (NextKeep T f w w1 y g gc w.heap.size size fr rs last L wv) := ⟨(hB0.block y hyl).trans H1.out, (hb.block _ (by simp)).trans (heapAlloc w _), own_calm H2.out hB0, how⟩
  obtain ⟨wl, hwl⟩ : ∃ wl, (wordsF rs 0).length = wl := ⟨_, rfl⟩
  have HWL := Lib.hid hwl
  have hwl8 : wl ≤ 8 := by have := wordsF_len rs 0; omega
  obtain ⟨wa, wc, rfl⟩ := ownAt_form how
  obtain ⟨c0, c1, rd, c10, c11, fz⟩ := rchk_cells hf3 HK.out.hy
  obtain ⟨b0, b1, b2, b3, b4, b5, b6, b7, bz⟩ := eight_cells HK.out.hbx
  rw [HLN.out] at c11
  rw [hwl]
  clear how hb hB0 hwl d0 d1 d2 d3 d4 d5 d6 d7 l0 rd
  cases hz : zeroS rs with
  | true =>
    have hw0 : wl = 0 := by rw [← HWL.out, words_zero rs |>.2 hz]; rfl
    have HE : Hid (planK size (Rep size fr rs last L) = (true, 0, fr, n, 0, 0, 0, 0)) := by
      show _ = _
      rw [rep_last HOK.out (k := 1) (s := ⟨4, fr, n, 0, 0⟩) (e := 0) (by rw [HLN.out]; exact hl1) (by rw [HT1.out]; simp [repStep, stepK, hz]) (by show (4 : Int) ≤ 4; omega)]
      simp [planK]
    subst hw0
    go_wp2_with fail
    refine bodyPost_ret (v := _) (by simp [results, Try.results78, go_sem, b0, b1, b2, b3, b4, b5, b6, b7]; rfl) rfl ?_
    rw [HE.out]
    exact ⟨rfl, set8_below HB.out (Nat.le_refl _) _ _ _ _ _ _ _ _⟩
  | false =>
    have hw0 : 0 < wl := by
      have := mt (words_zero rs).1 (by rw [hz]; decide)
      rw [← HWL.out]
      exact List.length_pos_iff.2 this
    have hwz : ((wl : Int) == 0) = false := by simp; omega
    by_cases hnf : n ≤ fr
    · have HE : Hid (planK size (Rep size fr rs last L) = (true, 0, fr, n, 0, 0, 0, 0)) := by
        show _ = _
        rw [rep_last HOK.out (k := 1) (s := ⟨4, fr, n, 0, 0⟩) (e := 0) (by rw [HLN.out]; exact hl1) (by rw [HT1.out]; simp [repStep, stepK, hz, hnf]) (by show (4 : Int) ≤ 4; omega)]
        simp [planK]
      go_wp2_with fail
      refine bodyPost_ret (v := _) (by simp [results, Try.results78, go_sem, b0, b1, b2, b3, b4, b5, b6, b7]; rfl) rfl ?_
      rw [HE.out]
      exact ⟨rfl, set8_below HB.out (Nat.le_refl _) _ _ _ _ _ _ _ _⟩
    · have hnfd : decide (n ≤ fr) = false := by simpa using hnf
      go_wp2_with fail
      refine (rchkFar_any y size fr hf rs last _ n ⟨hn1, hn2⟩ w1 hf3 HK.out.hy).mono ?_
      rintro e w2 ⟨rfl, hb⟩
      have HB2 := Lib.hid (HB.out.trans (hb.mono HB.out.size))
      have HK2 := Lib.hid (HK.out.calm hb)
      clear hb HB HK c0 c1 c10 c11 fz b0 b1 b2 b3 b4 b5 b6 b7 bz
      obtain ⟨c0, c1, rd, c10, c11, fz⟩ := rchk_cells hf3 HK2.out.hy
      obtain ⟨b0, b1, b2, b3, b4, b5, b6, b7, bz⟩ := eight_cells HK2.out.hbx
      rw [HLN.out] at c11
      clear rd
      cases hfar : farB size fr n with
      | true =>
        have HE : Hid (planK size (Rep size fr rs last L) = (true, 4, 0, 0, 0, 0, 0, 0)) := by
          show _ = _
          rw [rep_last HOK.out (k := 1) (s := ⟨5, fr, n, 0, 0⟩) (e := 4) (by rw [HLN.out]; exact hl1) (by rw [HT1.out]; exact rep_far hz (by omega) hfar) (by show (4 : Int) ≤ 5; omega)]
          simp [planK]
        go_wp2_with fail
        refine bodyPost_ret (v := _) (by simp [results, Try.results78, go_sem, b0, b1, b2, b3, b4, b5, b6, b7]; rfl) rfl ?_
        rw [HE.out]
        exact ⟨rfl, set8_below HB2.out (Nat.le_refl _) _ _ _ _ _ _ _ _⟩
      | false =>
        have HR1 : Hid (Rep size fr rs last (L.take 1) = (⟨1, fr, n, fr + 1, 0⟩, 0)) := by
          show _ = _
          rw [HT1.out]; exact rep_near hz (by omega) hfar
        have hmn : n - fr ≤ size := by
          have h := hfar
          unfold farB at h
          simp at h
          omega
        obtain ⟨mn, hmn2⟩ : ∃ mn : Nat, n = fr + mn := ⟨(n - fr).toNat, by omega⟩
        subst hmn2
        have e0 : fr + (mn : Int) - fr = mn := by omega
        have hmn16 : mn ≤ 16 := by omega
        have hmn1 : 1 ≤ mn := by omega
        have HOU : Hid (OutOk size fr rs last L (fr + mn) (fr + ((1 : Nat) : Int) - 1) fr 1) := ⟨0, fun _ => by rw [HR1.out, show fr + ((1 : Nat) : Int) - 1 + 1 = fr + 1 by omega], fun h => absurd h (by omega)⟩
        have HZ := Lib.hid hz
        obtain ⟨gw, hwa⟩ : ∃ gw, wa = some ⟨gw, 0, none⟩ := by
          obtain ⟨g0, c0, hv, _⟩ := own_parts HK2.out.hw (by rw [HWL.out]; omega)
          exact ⟨g0, by simp at hv; exact hv.1⟩
        subst hwa
        clear HT1 hnf hnfd hz hfar HR1 c0 c1 c10 c11 fz b0 b1 b2 b3 b4 b5 b6 b7 bz
        obtain ⟨c0, c1, rd, c10, c11, fz⟩ := rchk_cells hf3 HK2.out.hy
        clear rd
        go_wp2_with fail
        clear c0 c1 c10 c11 fz
        go_loopw [6, 7, 9] (fun a s i wr => ∃ (A k : Nat) (st : Int), 1 ≤ A ∧ A ≤ ln ∧ 1 ≤ k ∧ k ≤ mn + 1 ∧ a = .int .i64 A ∧ s = .int .i64 st ∧ i = .int .i64 k ∧ Hid (OutOk size fr rs last L (fr + mn) (fr + k - 1) st A) ∧ Hid (Below w.heap.size w wr) ∧ Hid (NextKeep T f w wr y g gc w.heap.size size fr rs last L (.slice (some ⟨gw, 0, none⟩) (wordsF rs 0).length wc))) (fun _ _ i _ => mn + 1 - (intOf i).toNat)
        case atStart => exact ⟨1, 1, fr, by omega, by omega, by omega, by omega, rfl, rfl, rfl, HOU.out, HB2.out, HK2.out⟩
        case round =>
          obtain ⟨A, k, st, hA1, hAl, hk1, hkm, rfl, rfl, rfl, HO, HB, HK⟩ := hrel
          obtain ⟨c0, c1, rd, c10, c11, fz⟩ := rchk_cells hf3 HK.out.hy
          obtain ⟨b0, b1, b2, b3, b4, b5, b6, b7, bz⟩ := eight_cells HK.out.hbx
          rw [HLN.out] at c11
          clear rd
          by_cases hk : k ≤ mn
          · go_wp2_with fail
            refine (refSlot_any _ _ _).mono ?_; rintro e w' ⟨rfl, rfl⟩
            have HRA : Hid (∃ wd, Rep size fr rs last (L.take A) = (⟨1, st, fr + mn, fr + k, wd⟩, 0)) := by
              obtain ⟨wd, h1, _⟩ := HO.out
              exact ⟨wd, by rw [h1 (by omega), show fr + (k : Int) - 1 + 1 = fr + k by omega]⟩
            by_cases hAe : A = ln
            · subst hAe
              have HE : Hid (planK size (Rep size fr rs last L) = (false, 0, 0, 0, 2, slotZ (fr + k) size, 0, fr + k)) := by
                show _ = _
                obtain ⟨wd, h1⟩ := HRA.out
                rw [take_full HLN.out.symm] at h1
                rw [h1]
                simp [planK, addrK]
              go_wp2_with fail
              go_wp2_with fail
              refine bodyPost_ret (v := _) (by simp [results, Try.results78, go_sem, b0, b1, b2, b3, b4, b5, b6, b7]; rfl) rfl ?_
              rw [HE.out]
              exact ⟨rfl, set8_below HB.out (Nat.le_refl _) _ _ _ _ _ _ _ _⟩
            · have hx0 := List.getElem?_eq_getElem (show A < L.length by have := HLN.out; omega)
              have hvI := HLI.out _ (List.getElem_mem (show A < L.length by have := HLN.out; omega))
              generalize L[A]'(by have := HLN.out; omega) = v at *
              obtain ⟨ga, gb, hgv, lA⟩ := int_at HK.out.ho hx0
              obtain rfl : g = ga := by simp at hgv; exact hgv.1
              have HX := Lib.hid hx0
              have HVI := Lib.hid hvI
              have hAn : ((A : Int) == (ln : Int)) = false := by simp; omega
              clear hgv hx0 hvI
              go_wp2_with fail
              refine (refLaid_any _ _ HVI.out _).mono ?_; rintro e w' ⟨rfl, rfl⟩
              go_wp2_with fail
              refine (refDone_any _ _).mono ?_; rintro e w' ⟨rfl, rfl⟩
              cases hla : laidB v (fr + k) with
              | false =>
                have HE : Hid (planK size (Rep size fr rs last L) = (true, 4, 0, 0, 0, 0, 0, 0)) := by
                  show _ = _
                  obtain ⟨wd, h1⟩ := HRA.out
                  rw [rep_last HOK.out (k := A + 1) (by rw [HLN.out]; omega) (rep_unlaid HOK.out h1 HX.out hla) (by show (4 : Int) ≤ 5; omega)]
                  simp [planK]
                go_wp2_with fail
                go_wp2_with fail
                refine bodyPost_ret (v := _) (by simp [results, Try.results78, go_sem, b0, b1, b2, b3, b4, b5, b6, b7]; rfl) rfl ?_
                rw [HE.out]
                exact ⟨rfl, set8_below HB.out (Nat.le_refl _) _ _ _ _ _ _ _ _⟩
              | true =>
                have HS0 : Hid (InOk size fr rs last L (fr + mn) (fr + k) (if (v % 2 == 1 && st == fr + k - 1) = true then fr + k else st) (A + 1) 0) := by
                  obtain ⟨wd, h1⟩ := HRA.out
                  exact InOk.start HZ.out (rep_laid h1 HX.out hla)
                clear hla HRA HO lA
                cases hd : (v % 2 == 1) with
                | false =>
                  have HI : Hid (InOk size fr rs last L (fr + mn) (fr + k) st (A + 1) 0) := by
                    have h := HS0.out
                    rw [hd] at h
                    exact h
                  clear hd HS0
                  go_wp2_with fail
                  clear c0 c1 c10 c11 fz b0 b1 b2 b3 b4 b5 b6 b7 bz
                  go_loopw [6, 14] (fun a jv wr => ∃ (A2 j : Nat), 1 ≤ A2 ∧ A2 ≤ ln ∧ j ≤ wl ∧ a = .int .i64 A2 ∧ jv = .int .i64 j ∧ Hid (InOk size fr rs last L (fr + mn) (fr + k) st A2 j) ∧ Hid (Below w.heap.size w wr) ∧ Hid (NextKeep T f w wr y g gc w.heap.size size fr rs last L (.slice (some ⟨gw, 0, none⟩) (wordsF rs 0).length wc))) (fun _ j _ => wl - (intOf j).toNat)
                  case atStart => exact ⟨A + 1, 0, by omega, by omega, by omega, by go_num, rfl, HI.out, HB.out, HK.out⟩
                  case round =>
                    obtain ⟨A2, j, hB1, hBl, hj8, rfl, rfl, HIn, HBn, HKn⟩ := hrel
                    obtain ⟨c0, c1, rd, c10, c11, fz⟩ := rchk_cells hf3 HKn.out.hy
                    obtain ⟨b0, b1, b2, b3, b4, b5, b6, b7, bz⟩ := eight_cells HKn.out.hbx
                    rw [HLN.out] at c11
                    by_cases hj : j < wl
                    · obtain ⟨m, hm, hmx, hmd, hmr⟩ := InOk.at HIn.out (by rw [HWL.out]; exact hj)
                      obtain ⟨g9, c9, hv9, lw⟩ := nat_at HKn.out.hw hmx
                      obtain rfl : g9 = gw := by simp at hv9; exact hv9.1.symm
                      have HMD := Lib.hid hmd
                      have HMR := Lib.hid hmr
                      have cm := rd m hm
                      have hm8 : (m : Int) < 8 := by omega
                      have hm0 : (0 : Int) ≤ m := by omega
                      clear rd hmx hmd hmr hv9
                      by_cases hBe : A2 = ln
                      · subst hBe
                        have HE : Hid (planK size (Rep size fr rs last L) = (false, 0, 0, 0, 3, slotZ (fr + k) size, (m : Int), 0)) := by
                          show _ = _
                          have h1 := HMR.out
                          rw [take_full HLN.out.symm] at h1
                          rw [h1]
                          simp [planK, addrK]
                        go_wp2_with fail
                        go_wp2_with fail
                        refine bodyPost_ret (v := _) (by simp [results, Try.results78, go_sem, b0, b1, b2, b3, b4, b5, b6, b7]; rfl) rfl ?_
                        rw [HE.out]
                        exact ⟨rfl, set8_below HBn.out (Nat.le_refl _) _ _ _ _ _ _ _ _⟩
                      · have hx0 := List.getElem?_eq_getElem (show A2 < L.length by have := HLN.out; omega)
                        generalize L[A2]'(by have := HLN.out; omega) = u at *
                        obtain ⟨ga, gb, hgv, lA⟩ := int_at HKn.out.ho hx0
                        obtain rfl : ga = g := by simp at hgv; exact hgv.1.symm
                        have HX := Lib.hid hx0
                        have hAn : ((A2 : Int) == (ln : Int)) = false := by simp; omega
                        clear hgv hx0
                        go_wp2_with fail
                        go_quiet (fail)
                        have HBq : Hid (Below w.heap.size w (wr.drewN nq)) := below_drewN HBn.out _
                        have HKq := Lib.hid (HKn.out.calm (below_drewN (Below.refl _ wr) nq))
                        clear c0 c1 c10 c11 fz b0 b1 b2 b3 b4 b5 b6 b7 bz lA lw
                        obtain ⟨b0, b1, b2, b3, b4, b5, b6, b7, bz⟩ := eight_cells HKq.out.hbx
                        by_cases hbt : bits .and .u64 (IntKind.u64.wrap u) (rs m) = 0
                        · have HIs := Lib.hid (InOk.step hm HMD.out HMR.out HX.out hbt)
                          have hb2 : (bits .and .u64 (rs m) (IntKind.u64.wrap u) != 0) = false := by rw [and_comm64, hbt]; rfl
                          clear hbt
                          go_wp2_with fail
                          go_roundw
                          case rel => exact ⟨A2 + 1, j + 1, by omega, by omega, by omega, by go_num, by go_num, HIs.out, HBq.out, HKq.out⟩
                          case measure => simp [intOf]; omega
                        · have HE : Hid (planK size (Rep size fr rs last L) = (true, 3, 0, 0, 0, 0, 0, 0)) := by
                            show _ = _
                            rw [rep_last HOK.out (k := A2 + 1) (by rw [HLN.out]; omega) (rep_hit HMR.out HX.out hbt) (by show (4 : Int) ≤ 5; omega)]
                            simp [planK]
                          have hb2 : (bits .and .u64 (rs m) (IntKind.u64.wrap u) != 0) = true := by rw [and_comm64]; simpa using hbt
                          clear hbt
                          go_wp2_with fail
                          go_wp2_with fail
                          refine bodyPost_ret (v := _) (by simp [results, Try.results78, go_sem, b0, b1, b2, b3, b4, b5, b6, b7]; rfl) rfl ?_
                          rw [HE.out]
                          exact ⟨rfl, set8_below HBq.out (Nat.le_refl _) _ _ _ _ _ _ _ _⟩
                    · obtain rfl : j = wl := by omega
                      have HOe := Lib.hid (InOk.end HIn.out (by rw [HWL.out]; omega))
                      clear rd
                      go_wp2_with fail
                      go_roundw
                      case rel => exact ⟨A2, k + 1, st, hB1, hBl, by omega, by omega, rfl, rfl, by go_num, by have h := HOe.out; rwa [show fr + ((k + 1 : Nat) : Int) - 1 = fr + k by omega], HBn.out, HKn.out⟩
                      case measure => simp [intOf]; omega
                | true =>
                  have HD := Lib.hid hd
                  clear hd
                  go_wp2_with fail
                  · rename_i hs
                    have HI : Hid (InOk size fr rs last L (fr + mn) (fr + k) (fr + k) (A + 1) 0) := by
                      have h := HS0.out
                      rw [HD.out, hs] at h
                      exact h
                    clear hs HS0 c0 c1 c10 c11 fz b0 b1 b2 b3 b4 b5 b6 b7 bz
                    go_loopw [6, 14] (fun a jv wr => ∃ (A2 j : Nat), 1 ≤ A2 ∧ A2 ≤ ln ∧ j ≤ wl ∧ a = .int .i64 A2 ∧ jv = .int .i64 j ∧ Hid (InOk size fr rs last L (fr + mn) (fr + k) (fr + k) A2 j) ∧ Hid (Below w.heap.size w wr) ∧ Hid (NextKeep T f w wr y g gc w.heap.size size fr rs last L (.slice (some ⟨gw, 0, none⟩) (wordsF rs 0).length wc))) (fun _ j _ => wl - (intOf j).toNat)
                    case atStart => exact ⟨A + 1, 0, by omega, by omega, by omega, by go_num, rfl, HI.out, HB.out, HK.out⟩
                    case round =>
                      obtain ⟨A2, j, hB1, hBl, hj8, rfl, rfl, HIn, HBn, HKn⟩ := hrel
                      obtain ⟨c0, c1, rd, c10, c11, fz⟩ := rchk_cells hf3 HKn.out.hy
                      obtain ⟨b0, b1, b2, b3, b4, b5, b6, b7, bz⟩ := eight_cells HKn.out.hbx
                      rw [HLN.out] at c11
                      by_cases hj : j < wl
                      · obtain ⟨m, hm, hmx, hmd, hmr⟩ := InOk.at HIn.out (by rw [HWL.out]; exact hj)
                        obtain ⟨g9, c9, hv9, lw⟩ := nat_at HKn.out.hw hmx
                        obtain rfl : g9 = gw := by simp at hv9; exact hv9.1.symm
                        have HMD := Lib.hid hmd
                        have HMR := Lib.hid hmr
                        have cm := rd m hm
                        have hm8 : (m : Int) < 8 := by omega
                        have hm0 : (0 : Int) ≤ m := by omega
                        clear rd hmx hmd hmr hv9
                        by_cases hBe : A2 = ln
                        · subst hBe
                          have HE : Hid (planK size (Rep size fr rs last L) = (false, 0, 0, 0, 3, slotZ (fr + k) size, (m : Int), 0)) := by
                            show _ = _
                            have h1 := HMR.out
                            rw [take_full HLN.out.symm] at h1
                            rw [h1]
                            simp [planK, addrK]
                          go_wp2_with fail
                          go_wp2_with fail
                          refine bodyPost_ret (v := _) (by simp [results, Try.results78, go_sem, b0, b1, b2, b3, b4, b5, b6, b7]; rfl) rfl ?_
                          rw [HE.out]
                          exact ⟨rfl, set8_below HBn.out (Nat.le_refl _) _ _ _ _ _ _ _ _⟩
                        · have hx0 := List.getElem?_eq_getElem (show A2 < L.length by have := HLN.out; omega)
                          generalize L[A2]'(by have := HLN.out; omega) = u at *
                          obtain ⟨ga, gb, hgv, lA⟩ := int_at HKn.out.ho hx0
                          obtain rfl : ga = g := by simp at hgv; exact hgv.1.symm
                          have HX := Lib.hid hx0
                          have hAn : ((A2 : Int) == (ln : Int)) = false := by simp; omega
                          clear hgv hx0
                          go_wp2_with fail
                          go_quiet (fail)
                          have HBq : Hid (Below w.heap.size w (wr.drewN nq)) := below_drewN HBn.out _
                          have HKq := Lib.hid (HKn.out.calm (below_drewN (Below.refl _ wr) nq))
                          clear c0 c1 c10 c11 fz b0 b1 b2 b3 b4 b5 b6 b7 bz lA lw
                          obtain ⟨b0, b1, b2, b3, b4, b5, b6, b7, bz⟩ := eight_cells HKq.out.hbx
                          by_cases hbt : bits .and .u64 (IntKind.u64.wrap u) (rs m) = 0
                          · have HIs := Lib.hid (InOk.step hm HMD.out HMR.out HX.out hbt)
                            have hb2 : (bits .and .u64 (rs m) (IntKind.u64.wrap u) != 0) = false := by rw [and_comm64, hbt]; rfl
                            clear hbt
                            go_wp2_with fail
                            go_roundw
                            case rel => exact ⟨A2 + 1, j + 1, by omega, by omega, by omega, by go_num, by go_num, HIs.out, HBq.out, HKq.out⟩
                            case measure => simp [intOf]; omega
                          · have HE : Hid (planK size (Rep size fr rs last L) = (true, 3, 0, 0, 0, 0, 0, 0)) := by
                              show _ = _
                              rw [rep_last HOK.out (k := A2 + 1) (by rw [HLN.out]; omega) (rep_hit HMR.out HX.out hbt) (by show (4 : Int) ≤ 5; omega)]
                              simp [planK]
                            have hb2 : (bits .and .u64 (rs m) (IntKind.u64.wrap u) != 0) = true := by rw [and_comm64]; simpa using hbt
                            clear hbt
                            go_wp2_with fail
                            go_wp2_with fail
                            refine bodyPost_ret (v := _) (by simp [results, Try.results78, go_sem, b0, b1, b2, b3, b4, b5, b6, b7]; rfl) rfl ?_
                            rw [HE.out]
                            exact ⟨rfl, set8_below HBq.out (Nat.le_refl _) _ _ _ _ _ _ _ _⟩
                      · obtain rfl : j = wl := by omega
                        have HOe := Lib.hid (InOk.end HIn.out (by rw [HWL.out]; omega))
                        clear rd
                        go_wp2_with fail
                        go_roundw
                        case rel => exact ⟨A2, k + 1, (fr + k), hB1, hBl, by omega, by omega, rfl, rfl, by go_num, by have h := HOe.out; rwa [show fr + ((k + 1 : Nat) : Int) - 1 = fr + k by omega], HBn.out, HKn.out⟩
                        case measure => simp [intOf]; omega
                  · rename_i hs
                    have HI : Hid (InOk size fr rs last L (fr + mn) (fr + k) st (A + 1) 0) := by
                      have h := HS0.out
                      rw [HD.out, hs] at h
                      exact h
                    clear hs HS0 c0 c1 c10 c11 fz b0 b1 b2 b3 b4 b5 b6 b7 bz
                    go_loopw [6, 14] (fun a jv wr => ∃ (A2 j : Nat), 1 ≤ A2 ∧ A2 ≤ ln ∧ j ≤ wl ∧ a = .int .i64 A2 ∧ jv = .int .i64 j ∧ Hid (InOk size fr rs last L (fr + mn) (fr + k) st A2 j) ∧ Hid (Below w.heap.size w wr) ∧ Hid (NextKeep T f w wr y g gc w.heap.size size fr rs last L (.slice (some ⟨gw, 0, none⟩) (wordsF rs 0).length wc))) (fun _ j _ => wl - (intOf j).toNat)
                    case atStart => exact ⟨A + 1, 0, by omega, by omega, by omega, by go_num, rfl, HI.out, HB.out, HK.out⟩
                    case round =>
                      obtain ⟨A2, j, hB1, hBl, hj8, rfl, rfl, HIn, HBn, HKn⟩ := hrel
                      obtain ⟨c0, c1, rd, c10, c11, fz⟩ := rchk_cells hf3 HKn.out.hy
                      obtain ⟨b0, b1, b2, b3, b4, b5, b6, b7, bz⟩ := eight_cells HKn.out.hbx
                      rw [HLN.out] at c11
                      by_cases hj : j < wl
                      · obtain ⟨m, hm, hmx, hmd, hmr⟩ := InOk.at HIn.out (by rw [HWL.out]; exact hj)
                        obtain ⟨g9, c9, hv9, lw⟩ := nat_at HKn.out.hw hmx
                        obtain rfl : g9 = gw := by simp at hv9; exact hv9.1.symm
                        have HMD := Lib.hid hmd
                        have HMR := Lib.hid hmr
                        have cm := rd m hm
                        have hm8 : (m : Int) < 8 := by omega
                        have hm0 : (0 : Int) ≤ m := by omega
                        clear rd hmx hmd hmr hv9
                        by_cases hBe : A2 = ln
                        · subst hBe
                          have HE : Hid (planK size (Rep size fr rs last L) = (false, 0, 0, 0, 3, slotZ (fr + k) size, (m : Int), 0)) := by
                            show _ = _
                            have h1 := HMR.out
                            rw [take_full HLN.out.symm] at h1
                            rw [h1]
                            simp [planK, addrK]
                          go_wp2_with fail
                          go_wp2_with fail
                          refine bodyPost_ret (v := _) (by simp [results, Try.results78, go_sem, b0, b1, b2, b3, b4, b5, b6, b7]; rfl) rfl ?_
                          rw [HE.out]
                          exact ⟨rfl, set8_below HBn.out (Nat.le_refl _) _ _ _ _ _ _ _ _⟩
                        · have hx0 := List.getElem?_eq_getElem (show A2 < L.length by have := HLN.out; omega)
                          generalize L[A2]'(by have := HLN.out; omega) = u at *
                          obtain ⟨ga, gb, hgv, lA⟩ := int_at HKn.out.ho hx0
                          obtain rfl : ga = g := by simp at hgv; exact hgv.1.symm
                          have HX := Lib.hid hx0
                          have hAn : ((A2 : Int) == (ln : Int)) = false := by simp; omega
                          clear hgv hx0
                          go_wp2_with fail
                          go_quiet (fail)
                          have HBq : Hid (Below w.heap.size w (wr.drewN nq)) := below_drewN HBn.out _
                          have HKq := Lib.hid (HKn.out.calm (below_drewN (Below.refl _ wr) nq))
                          clear c0 c1 c10 c11 fz b0 b1 b2 b3 b4 b5 b6 b7 bz lA lw
                          obtain ⟨b0, b1, b2, b3, b4, b5, b6, b7, bz⟩ := eight_cells HKq.out.hbx
                          by_cases hbt : bits .and .u64 (IntKind.u64.wrap u) (rs m) = 0
                          · have HIs := Lib.hid (InOk.step hm HMD.out HMR.out HX.out hbt)
                            have hb2 : (bits .and .u64 (rs m) (IntKind.u64.wrap u) != 0) = false := by rw [and_comm64, hbt]; rfl
                            clear hbt
                            go_wp2_with fail
                            go_roundw
                            case rel => exact ⟨A2 + 1, j + 1, by omega, by omega, by omega, by go_num, by go_num, HIs.out, HBq.out, HKq.out⟩
                            case measure => simp [intOf]; omega
                          · have HE : Hid (planK size (Rep size fr rs last L) = (true, 3, 0, 0, 0, 0, 0, 0)) := by
                              show _ = _
                              rw [rep_last HOK.out (k := A2 + 1) (by rw [HLN.out]; omega) (rep_hit HMR.out HX.out hbt) (by show (4 : Int) ≤ 5; omega)]
                              simp [planK]
                            have hb2 : (bits .and .u64 (rs m) (IntKind.u64.wrap u) != 0) = true := by rw [and_comm64]; simpa using hbt
                            clear hbt
                            go_wp2_with fail
                            go_wp2_with fail
                            refine bodyPost_ret (v := _) (by simp [results, Try.results78, go_sem, b0, b1, b2, b3, b4, b5, b6, b7]; rfl) rfl ?_
                            rw [HE.out]
                            exact ⟨rfl, set8_below HBq.out (Nat.le_refl _) _ _ _ _ _ _ _ _⟩
                      · obtain rfl : j = wl := by omega
                        have HOe := Lib.hid (InOk.end HIn.out (by rw [HWL.out]; omega))
                        clear rd
                        go_wp2_with fail
                        go_roundw
                        case rel => exact ⟨A2, k + 1, st, hB1, hBl, by omega, by omega, rfl, rfl, by go_num, by have h := HOe.out; rwa [show fr + ((k + 1 : Nat) : Int) - 1 = fr + k by omega], HBn.out, HKn.out⟩
                        case measure => simp [intOf]; omega
          · obtain rfl : k = mn + 1 := by omega
            have hAx := hAl
            obtain ⟨wd, hO1⟩ : ∃ wd, Rep size fr rs last (L.take A) = (⟨if last = true then 3 else 4, st, fr + mn, fr + (mn + 1 : Nat) - 1, wd⟩, 0) := by
              obtain ⟨wd, _, h1⟩ := HO.out
              exact ⟨wd, h1 (by omega)⟩
            have HO1 := Lib.hid hO1
            clear hO1 HO
            rcases Bool.eq_false_or_eq_true last with hla | hla
            · have HLA := Lib.hid hla
              rw [hla] at c10
              clear hla
              by_cases hAe : A = ln
              · subst hAe
                have HE : Hid (planK size (Rep size fr rs last L) = (false, 0, 0, 0, 1, 0, 0, 0)) := by
                  show _ = _
                  have h1 := HO1.out
                  rw [take_full HLN.out.symm, HLA.out] at h1
                  rw [HLA.out, h1]
                  simp [planK, addrK]
                go_wp2_with fail
                go_wp2_with fail
                refine bodyPost_ret (v := _) (by simp [results, Try.results78, go_sem, b0, b1, b2, b3, b4, b5, b6, b7]; rfl) rfl ?_
                rw [HE.out]
                exact ⟨rfl, set8_below HB.out (Nat.le_refl _) _ _ _ _ _ _ _ _⟩
              · have hx0 := List.getElem?_eq_getElem (show A < L.length by have := HLN.out; omega)
                have hvI := HLI.out _ (List.getElem_mem (show A < L.length by have := HLN.out; omega))
                generalize L[A]'(by have := HLN.out; omega) = v at *
                obtain ⟨ga, gb, hgv, lA⟩ := int_at HK.out.ho hx0
                obtain rfl : g = ga := by simp at hgv; exact hgv.1
                have HX := Lib.hid hx0
                have HVI := Lib.hid hvI
                have hAn : ((A : Int) == (ln : Int)) = false := by simp; omega
                have HR5 : Hid (Rep size fr rs last (L.take (A + 1)) = if farB size fr v = true then (⟨5, st, fr + mn, fr + (mn + 1 : Nat) - 1, wd⟩, 4) else (⟨4, st, fr + mn, fr + (mn + 1 : Nat) - 1, wd⟩, 0)) := by
                  have h1 := HO1.out
                  rw [if_pos HLA.out] at h1
                  exact rep_again h1 HX.out
                clear hgv hx0 hvI
                go_wp2_with fail
                refine (rchkFar_any y size fr hf rs last _ v HVI.out wr hf3 HK.out.hy).mono ?_
                rintro e w5 ⟨rfl, hb⟩
                have HB5 := Lib.hid (HB.out.trans (hb.mono HB.out.size))
                have HK5 := Lib.hid (HK.out.calm hb)
                clear hb HB HK c0 c1 c10 c11 fz b0 b1 b2 b3 b4 b5 b6 b7 bz lA
                obtain ⟨b0, b1, b2, b3, b4, b5, b6, b7, bz⟩ := eight_cells HK5.out.hbx
                cases hfar : farB size fr v with
                | true =>
                  have HE : Hid (planK size (Rep size fr rs last L) = (true, 4, 0, 0, 0, 0, 0, 0)) := by
                    show _ = _
                    rw [rep_last HOK.out (k := A + 1) (by rw [HLN.out]; omega) (HR5.out.trans (if_pos hfar)) (by show (4 : Int) ≤ 5; omega)]
                    simp [planK]
                  go_wp2_with fail
                  go_wp2_with fail
                  refine bodyPost_ret (v := _) (by simp [results, Try.results78, go_sem, b0, b1, b2, b3, b4, b5, b6, b7]; rfl) rfl ?_
                  rw [HE.out]
                  exact ⟨rfl, set8_below HB5.out (Nat.le_refl _) _ _ _ _ _ _ _ _⟩
                | false =>
                  have HE : Hid (planK size (Rep size fr rs last L) = (true, 0, st, fr + mn, 0, 0, 0, 0)) := by
                    show _ = _
                    rw [rep_last HOK.out (k := A + 1) (by rw [HLN.out]; omega) (HR5.out.trans (if_neg (by rw [hfar]; decide))) (by show (4 : Int) ≤ 4; omega)]
                    simp [planK]
                  go_wp2_with fail
                  go_wp2_with fail
                  refine bodyPost_ret (v := _) (by simp [results, Try.results78, go_sem, b0, b1, b2, b3, b4, b5, b6, b7]; rfl) rfl ?_
                  rw [HE.out]
                  exact ⟨rfl, set8_below HB5.out (Nat.le_refl _) _ _ _ _ _ _ _ _⟩
            · have HE : Hid (planK size (Rep size fr rs last L) = (true, 0, st, fr + mn, 0, 0, 0, 0)) := by
                show _ = _
                have h1 := HO1.out
                rw [hla, if_neg (by decide)] at h1
                rw [hla, rep_last (hla ▸ HOK.out) (k := A) (by rw [HLN.out]; omega) h1 (by show (4 : Int) ≤ 4; omega)]
                simp [planK]
              rw [hla] at c10
              clear hla
              go_wp2_with fail
              go_wp2_with fail
              refine bodyPost_ret (v := _) (by simp [results, Try.results78, go_sem, b0, b1, b2, b3, b4, b5, b6, b7]; rfl) rfl ?_
              rw [HE.out]
              exact ⟨rfl, set8_below HB.out (Nat.le_refl _) _ _ _ _ _ _ _ _⟩
open Go.RowKit
set_option linter.unusedVariables false
theorem rnext_any {T : TypeId} {f : Value → Array Value} (y size : Nat) (hs1 : 1 ≤ size) (hs2 : size ≤ 16) (fr : Int) (hf : 0 ≤ fr) (rs : Nat → Int) (last : Bool) (hf3 : Off3 f size fr rs last) (L : List Int) (hL : ∀ x ∈ L, I64 x) (hlen : L.length ≤ 1000) (hok : RepOk size fr rs last L) (p : Bool × Int × Int × Int × Int × Int × Int × Int) (hp : planK size (Rep size fr rs last L) = p) :
    Looks Try.prog 78 #[.pointer (some ⟨y, 3, none⟩)] (RChkH T f y L) (.returned (planV8 p)) := by
  subst hp
  intro w F h
  match L, hL, hlen, hok, h with
  | [], hL, hlen, hok, h => exact rnext_nil y size hs1 hs2 fr hf rs last hf3 w F h
  | n :: tl, hL, hlen, hok, h => exact rnext_cons y size hs1 hs2 fr hf rs last hf3 (n :: tl) n rfl hL hlen hok w F h
theorem rchkStart_no {T : TypeId} {f : Value → Array Value} (y size : Nat) (hs1 : 1 ≤ size) (hs2 : size ≤ 16) (fr : Int) (hf : 0 ≤ fr) (rs : Nat → Int) (last : Bool) (hf3 : Off3 f size fr rs last) (L : List Int) (hL : ∀ x ∈ L, I64 x) (hlen : L.length ≤ 1000) (hok : RepOk size fr rs last L) (th : Bool) (er s n a b c d : Int) (hp : planK size (Rep size fr rs last L) = (th, er, s, n, a, b, c, d)) (hn : th = false ∨ er ≠ 0) :
    Looks Try.prog 57 #[.pointer (some ⟨y, 3, none⟩)] (RChkH T f y L) (.returned (.tuple #[.int .i64 0, .int .i64 0, .bool false])) := by
  intro w F h
  have HN := Lib.hid (rnext_any y size hs1 hs2 fr hf rs last hf3 L hL hlen hok _ hp w F h)
  clear hok hp hL h
  go_enter Try.func57, Try.ntmps57
  go_wp2_with fail
  refine HN.out.mono ?_
  rintro e w1 ⟨rfl, hb⟩
  have HB := Lib.hid hb
  obtain ⟨b0, b1, b2, b3, b4, b5, b6, b7, bz⟩ := eight_cells (heapAlloc w1 (.cells #[.bool th, .int .i64 er, .int .i64 s, .int .i64 n, .int .i64 a, .int .i64 b, .int .i64 c, .int .i64 d] 149))
  clear hb HN
  unfold planV8
  cases th with
  | false =>
    clear hn
    go_wp2_with fail
    refine bodyPost_ret (v := _) (by simp [results, Try.results57, go_sem]; rfl) rfl ?_
    exact ⟨rfl, HB.out.alloc HB.out.size _⟩
  | true =>
    have e1 : (er != 0) = true := by simpa using hn
    clear hn
    go_wp2_with fail
    refine bodyPost_ret (v := _) (by simp [results, Try.results57, go_sem]; rfl) rfl ?_
    exact ⟨rfl, HB.out.alloc HB.out.size _⟩
theorem rchkStart_yes {T : TypeId} {f : Value → Array Value} (y size : Nat) (hs1 : 1 ≤ size) (hs2 : size ≤ 16) (fr : Int) (hf : 0 ≤ fr) (rs : Nat → Int) (last : Bool) (hf3 : Off3 f size fr rs last) (L : List Int) (hL : ∀ x ∈ L, I64 x) (hlen : L.length ≤ 1000) (hok : RepOk size fr rs last L) (s n a b c d : Int) (hp : planK size (Rep size fr rs last L) = (true, 0, s, n, a, b, c, d)) :
    Looks Try.prog 57 #[.pointer (some ⟨y, 3, none⟩)] (RChkH T f y L) (.returned (.tuple #[.int .i64 s, .int .i64 n, .bool true])) := by
  intro w F h
  have HN := Lib.hid (rnext_any y size hs1 hs2 fr hf rs last hf3 L hL hlen hok _ hp w F h)
  clear hok hp hL h
  go_enter Try.func57, Try.ntmps57
  go_wp2_with fail
  refine HN.out.mono ?_
  rintro e w1 ⟨rfl, hb⟩
  have HB := Lib.hid hb
  obtain ⟨b0, b1, b2, b3, b4, b5, b6, b7, bz⟩ := eight_cells (heapAlloc w1 (.cells #[.bool true, .int .i64 0, .int .i64 s, .int .i64 n, .int .i64 a, .int .i64 b, .int .i64 c, .int .i64 d] 149))
  clear hb HN
  unfold planV8
  go_wp2_with fail
  go_quiet (fail)
  go_wp2_with fail
  refine bodyPost_ret (v := _) (by simp [results, Try.results57, go_sem]; rfl) rfl ?_
  exact ⟨rfl, below_drewN (HB.out.alloc HB.out.size _) _⟩
open Go.RowKit
set_option linter.unusedVariables false
abbrev RCStep (T : TypeId) (f : Value → Array Value) (r y ring cells : Nat) (l : List Acc) (L : List Int) : HP := Star (RMemH r ring cells l) (RChkH T f y L)
theorem RCStep.good (T : TypeId) (f : Value → Array Value) (r y ring cells : Nat) (l : List Acc) (L : List Int) : Good (RCStep T f r y ring cells l L) := (RMemH.good _ _ _ _).star (LstH.good _ _ _ _ _)
theorem refStamp_q (v : Int) (hv : I64 v) (w : World) : Calls Try.prog 79 #[.int .i64 v] w fun e w' => e = .returned (.int .i64 (v / 2)) ∧ w' = w :=
  (refStamp_any v hv w).mono fun _ _ h => ⟨h.1, h.2.symm⟩
set_option maxHeartbeats 1000000 in
theorem rchkStep_thr {T : TypeId} {f : Value → Array Value} (r y ring cells : Nat) (l : List Acc) (hs1 : 1 ≤ ring) (hs2 : ring ≤ 16) (fr : Int) (hf : 0 ≤ fr) (rs : Nat → Int) (last : Bool) (hf3 : Off3 f ring fr rs last) (L : List Int) (hL : ∀ x ∈ L, I64 x) (hlen : L.length ≤ 900) (hok : RepOk ring fr rs last L) (thr : Int) (er s n a b c d : Int) (hp : planK ring (Rep ring fr rs last L) = (true, er, s, n, a, b, c, d)) :
    Looks Try.prog 56 #[.pointer (some ⟨y, 3, none⟩), .pointer (some ⟨r, 0, none⟩), .int .i64 thr] (RCStep T f r y ring cells l L) (.returned (.tuple #[.int .i64 0, .int .i64 0])) := by
  intro w F h
  have HN := Lib.hid (Looks.right (A := RMemH r ring cells l) (rnext_any (T := T) y ring hs1 hs2 fr hf rs last hf3 L hL (by omega) hok _ hp) w F h)
  clear hok hp hL h
  go_enter Try.func56, Try.ntmps56
  go_wp2_with fail
  refine HN.out.mono ?_
  rintro e w1 ⟨rfl, hb⟩
  have HB := Lib.hid hb
  obtain ⟨b0, b1, b2, b3, b4, b5, b6, b7, bz⟩ := eight_cells (heapAlloc w1 (.cells #[.bool true, .int .i64 er, .int .i64 s, .int .i64 n, .int .i64 a, .int .i64 b, .int .i64 c, .int .i64 d] 149))
  clear hb HN
  unfold planV8
  go_wp2_with fail
  go_quiet (fail)
  go_wp2_with fail
  refine bodyPost_ret (v := _) (by simp [results, Try.results56, go_sem]; rfl) rfl ?_
  exact ⟨rfl, below_drewN (HB.out.alloc HB.out.size _) _⟩
set_option maxHeartbeats 1000000 in
set_option maxRecDepth 100000 in
theorem rchkStep_wait {T : TypeId} {f : Value → Array Value} (r y ring cells : Nat) (l : List Acc) (hs1 : 1 ≤ ring) (hs2 : ring ≤ 16) (fr : Int) (hf : 0 ≤ fr) (rs : Nat → Int) (last : Bool) (hf3 : Off3 f ring fr rs last) (L : List Int) (hL : ∀ x ∈ L, I64 x) (hlen : L.length ≤ 900) (hok : RepOk ring fr rs last L) (thr : Int) (hll : l.length ≤ 3000000000000) (er s n k i j d : Int) (hp : planK ring (Rep ring fr rs last L) = (false, er, s, n, k, i, j, d)) (hA : isA ring cells k i j) (v : Int) (hv : wordOf l k i j = v) (hvI : I64 v) (hd : 0 < d) (hw : v / 2 < d) :
    Lifts Try.prog 56 #[.pointer (some ⟨y, 3, none⟩), .pointer (some ⟨r, 0, none⟩), .int .i64 thr] (RCStep T f r y ring cells l L) (RCStep T f r y ring cells (l ++ [ldAcc thr k i j v]) L) (.returned (.tuple #[.int .i64 1, .int .i64 0])) := by
  have HRL := Lib.hid (rload_in r ring cells l hll thr k i j hA)
  rw [hv] at HRL
  intro w F h
  have HN := Lib.hid (Looks.right (A := RMemH r ring cells l) (rnext_any (T := T) y ring hs1 hs2 fr hf rs last hf3 L hL (by omega) hok _ hp))
  have HO := Lib.hid h
  have GR := Lib.hid (RCStep.good T f r y ring cells l L)
  have G2 := Lib.hid (RCStep.good T f r y ring cells (l ++ [ldAcc thr k i j v]) L)
  have e1 : ((ring : Int) != (ring : Int)) = false := by simp
  have HVI := Lib.hid hvI
  clear hok hp hL h hA hv hvI
  go_enter Try.func56, Try.ntmps56
  go_wp2_with fail
  refine (Stp.look GR.out HN.out (Stp.refl HO.out)).mono ?_
  rintro e w1 ⟨rfl, h1⟩
  have H1 := Lib.hid (h1.box GR.out #[.bool false, .int .i64 er, .int .i64 s, .int .i64 n, .int .i64 k, .int .i64 i, .int .i64 j, .int .i64 d] 149)
  have GX := Lib.hid (BlkH.good w1.heap.size #[.bool false, .int .i64 er, .int .i64 s, .int .i64 n, .int .i64 k, .int .i64 i, .int .i64 j, .int .i64 d] 149)
  clear h1 HN HO
  obtain ⟨b0, b1, b2, b3, b4, b5, b6, b7, bz⟩ := eight_cells H1.out.has.right.blk
  obtain ⟨_, rv, g1, _⟩ := H1.out.has.left.left
  obtain ⟨_, lv, g2, _⟩ := H1.out.has.left.right
  obtain ⟨q0, q1, q2, qz⟩ := three_cells g1
  obtain ⟨c0, c1, _, c10, c11, fz⟩ := rchk_cells hf3 g2
  clear g1 g2
  unfold planV8
  go_wp2_with fail
  go_quiet (fail)
  have H2 : Hid (Stp w ((w1.alloc (.cells #[.bool false, .int .i64 er, .int .i64 s, .int .i64 n, .int .i64 k, .int .i64 i, .int .i64 j, .int .i64 d] 149)).drewN nq) F _) := H1.out.below (GR.out.star GX.out) (below_drewN (Below.refl _ _) nq)
  clear H1
  go_wp2_with fail
  refine (Stp.lift (Lifts.left (B := BlkH w1.heap.size #[.bool false, .int .i64 er, .int .i64 s, .int .i64 n, .int .i64 k, .int .i64 i, .int .i64 j, .int .i64 d] 149) GX.out (Lifts.left (B := RChkH T f y L) (LstH.good _ _ _ _ _) HRL.out)) H2.out).mono ?_
  rintro e w4 ⟨rfl, h4⟩
  have H4 := Lib.hid h4
  clear h4 H2 HRL b0 b1 b2 b3 b4 b5 b6 b7 bz q0 q1 q2 qz c0 c1 c10 c11 fz
  obtain ⟨b0, b1, b2, b3, b4, b5, b6, b7, bz⟩ := eight_cells H4.out.has.right.blk
  go_wp2_with fail
  have d1 : decide (0 < d) = true := by simpa using hd
  have d2 : decide (v / 2 < d) = true := by simpa using hw
  clear hd hw
  go_quiet ((go_at_call 79; refine Calls.quiet_of_same (refStamp_q v HVI.out _)))
  go_wp2_with fail
  refine bodyPost_ret (v := _) (by simp [results, Try.results56, go_sem]; rfl) rfl ?_
  exact ⟨rfl, (H4.out.below (G2.out.star GX.out) (below_drewN (Below.refl _ _) nq)).fst⟩
set_option maxHeartbeats 2000000 in
set_option maxRecDepth 100000 in
theorem rchkStep_go1 {T : TypeId} {f : Value → Array Value} (r y ring cells : Nat) (l : List Acc) (hs1 : 1 ≤ ring) (hs2 : ring ≤ 16) (fr : Int) (hf : 0 ≤ fr) (rs : Nat → Int) (last : Bool) (hf3 : Off3 f ring fr rs last) (L : List Int) (hL : ∀ x ∈ L, I64 x) (hlen : L.length ≤ 900) (hok : RepOk ring fr rs last L) (thr : Int) (hll : l.length ≤ 3000000000000) (er s n k i j d : Int) (hp : planK ring (Rep ring fr rs last L) = (false, er, s, n, k, i, j, d)) (hA : isA ring cells k i j) (v : Int) (hv : wordOf l k i j = v) (hvI : I64 v) (hd : ¬ 0 < d) (hok2 : RepOk ring fr rs last (L ++ [v])) (th2 : Bool) (e2 s2 n2 a2 b2' c2 d2' : Int) (hp2 : planK ring (Rep ring fr rs last (L ++ [v])) = (th2, e2, s2, n2, a2, b2', c2, d2')) :
    Lifts Try.prog 56 #[.pointer (some ⟨y, 3, none⟩), .pointer (some ⟨r, 0, none⟩), .int .i64 thr] (RCStep T f r y ring cells l L) (RCStep T f r y ring cells (l ++ [ldAcc thr k i j v]) (L ++ [v])) (.returned (if th2 = true then if e2 = 0 then .tuple #[.int .i64 3, .int .i64 0] else .tuple #[.int .i64 4, .int .i64 e2] else .tuple #[.int .i64 2, .int .i64 0])) := by
  obtain ⟨i0, hi, hI0, hI1, hI2⟩ := info_parts infoI64
  have HN2 := Lib.hid (Looks.right (A := RMemH r ring cells (l ++ [ldAcc thr k i j v])) (rnext_any (T := T) y ring hs1 hs2 fr hf rs last hf3 (L ++ [v]) (fun x hx => (List.mem_append.1 hx).elim (hL x) (fun h => by rw [List.mem_singleton.1 h]; exact hvI)) (by simp; omega) hok2 _ hp2))
  clear hok2 hp2
  have HRL := Lib.hid (rload_in r ring cells l hll thr k i j hA)
  rw [hv] at HRL
  intro w F h
  have HN := Lib.hid (Looks.right (A := RMemH r ring cells l) (rnext_any (T := T) y ring hs1 hs2 fr hf rs last hf3 L hL (by omega) hok _ hp))
  have HO := Lib.hid h
  have GR := Lib.hid (RCStep.good T f r y ring cells l L)
  have G2 := Lib.hid (RCStep.good T f r y ring cells (l ++ [ldAcc thr k i j v]) L)
  have e1 : ((ring : Int) != (ring : Int)) = false := by simp
  have HVI := Lib.hid hvI
  clear hok hp hL h hA hv hvI
  go_enter Try.func56, Try.ntmps56
  go_wp2_with fail
  refine (Stp.look GR.out HN.out (Stp.refl HO.out)).mono ?_
  rintro e w1 ⟨rfl, h1⟩
  have H1 := Lib.hid (h1.box GR.out #[.bool false, .int .i64 er, .int .i64 s, .int .i64 n, .int .i64 k, .int .i64 i, .int .i64 j, .int .i64 d] 149)
  have GX := Lib.hid (BlkH.good w1.heap.size #[.bool false, .int .i64 er, .int .i64 s, .int .i64 n, .int .i64 k, .int .i64 i, .int .i64 j, .int .i64 d] 149)
  clear h1 HN HO
  obtain ⟨b0, b1, b2, b3, b4, b5, b6, b7, bz⟩ := eight_cells H1.out.has.right.blk
  obtain ⟨_, rv, g1, _⟩ := H1.out.has.left.left
  obtain ⟨_, lv, g2, _⟩ := H1.out.has.left.right
  obtain ⟨q0, q1, q2, qz⟩ := three_cells g1
  obtain ⟨c0, c1, _, c10, c11, fz⟩ := rchk_cells hf3 g2
  clear g1 g2
  unfold planV8
  go_wp2_with fail
  go_quiet (fail)
  have H2 : Hid (Stp w ((w1.alloc (.cells #[.bool false, .int .i64 er, .int .i64 s, .int .i64 n, .int .i64 k, .int .i64 i, .int .i64 j, .int .i64 d] 149)).drewN nq) F _) := H1.out.below (GR.out.star GX.out) (below_drewN (Below.refl _ _) nq)
  clear H1
  go_wp2_with fail
  refine (Stp.lift (Lifts.left (B := BlkH w1.heap.size #[.bool false, .int .i64 er, .int .i64 s, .int .i64 n, .int .i64 k, .int .i64 i, .int .i64 j, .int .i64 d] 149) GX.out (Lifts.left (B := RChkH T f y L) (LstH.good _ _ _ _ _) HRL.out)) H2.out).mono ?_
  rintro e w4 ⟨rfl, h4⟩
  have H4 := Lib.hid h4
  clear h4 H2 HRL b0 b1 b2 b3 b4 b5 b6 b7 bz q0 q1 q2 qz c0 c1 c10 c11 fz
  obtain ⟨b0, b1, b2, b3, b4, b5, b6, b7, bz⟩ := eight_cells H4.out.has.right.blk
  go_wp2_with fail
  have d1 : decide (0 < d) = false := by simpa using hd
  clear hd
  go_quiet (fail)
  have H5 := Lib.hid (H4.out.below (G2.out.star GX.out) (below_drewN (Below.refl _ _) nq)).fst
  clear H4 b0 b1 b2 b3 b4 b5 b6 b7 bz
  generalize w4.drewN nq = w5 at *
  obtain ⟨F4, ⟨FA4, FB4, hA4, ⟨lv4, k1, k2, k3, k4⟩, hF4, hd4⟩, c4⟩ := H5.out
  have HA4 := Lib.hid hA4
  have K1 := Lib.hid k1
  have K2 := Lib.hid k2
  have K3 := Lib.hid k3
  have K4 := Lib.hid k4
  have HFD4 := Lib.hid (And.intro hF4 hd4)
  have HC4 := Lib.hid c4
  obtain ⟨a4, ca4, rfl⟩ := ownAt_form k2
  obtain ⟨c0, c1, _, c10, c11, fz⟩ := rchk_cells hf3 k1
  have hown := k2
  have hyl := heap_lt k1
  clear hA4 k1 k2 k3 k4 hF4 hd4 c4 H5
  go_wp2_with (at_builtin; refine wpList_append_own_at _ rfl (.tmp 51) (.tmp 53) 86 rfl 0 2 i0 (.int .i64 0) 1 8 Try.underlying86 hi hI0 hI1 hI2 rfl (by decide) _ _ _ rfl (hown.alloc _) ⟨w5.heap.size, 0, none⟩ 1 1 [.int .i64 v] rfl rfl ?c1 ?c2 ?c3 ?c4 ?c5 ?_)
  case c1 => exact cell_one_new _ _ _
  case c2 => intro u hu; simp at hu; subst hu; rfl
  case c3 => unfold maxLen; omega
  case c4 => omega
  case c5 => omega
  · intro v' w6 hown' hgrow _ hwhere
    obtain ⟨a5, ca5, rfl⟩ := ownAt_form hown'
    have hC5 : Chg (fun b => (Value.slice a4 L.length ca4).ownBlock = some b) w5 w6 := (Chg.alloc _ _ _).grow hgrow (fun b hb _ => hb)
    obtain ⟨t0, t1, _, t10, t11, tz⟩ := rchk_cells hf3 ((hC5.block y hyl (fun e => K3.out e)).trans K1.out)
    have hM5 := lst_grown (i := 14) (f := f) (L' := L ++ [v]) K1.out K3.out K4.out (hf3.set _ _) (by rw [List.map_append, List.length_append]; exact hown') hC5 (by
      rcases hwhere with e | e
      · exact .inl e
      · exact .inr ⟨_, e, by simp⟩)
    have H6 : Hid (Stp w _ F (RCStep T f r y ring cells (l ++ [ldAcc thr k i j v]) (L ++ [v]))) := Stp.comp HC4.out.1 HC4.out.2 (hM5.right (RMemH.good _ _ _ _) HA4.out HFD4.out.1 HFD4.out.2)
    clear hown hown' hgrow hwhere hC5 hM5 c0 c1 c10 c11 fz
    go_wp2_with fail
    refine (Stp.look (RCStep.good _ _ _ _ _ _ _ _) HN2.out H6.out).mono ?_
    rintro e w7 ⟨rfl, h7⟩
    have H7 := Lib.hid h7
    clear h7 H6 t0 t1 t10 t11 tz
    obtain ⟨b0, b1, b2, b3, b4, b5, b6, b7, bz⟩ := eight_cells (heapAlloc w7 (.cells #[.bool th2, .int .i64 e2, .int .i64 s2, .int .i64 n2, .int .i64 a2, .int .i64 b2', .int .i64 c2, .int .i64 d2'] 149))
    have H8 : Hid (Stp w (w7.alloc (.cells #[.bool th2, .int .i64 e2, .int .i64 s2, .int .i64 n2, .int .i64 a2, .int .i64 b2', .int .i64 c2, .int .i64 d2'] 149)) F _) := H7.out.below (RCStep.good _ _ _ _ _ _ _ _) ((Below.refl _ _).alloc (Nat.le_refl _) _)
    clear H7
    unfold planV8
    cases th2 with
    | false =>
      go_wp2_with fail
      refine bodyPost_ret (v := _) (by simp [results, Try.results56, go_sem]; rfl) rfl ?_
      exact ⟨rfl, H8.out⟩
    | true =>
      by_cases he : e2 = 0
      · subst he
        go_wp2_with fail
        refine bodyPost_ret (v := _) (by simp [results, Try.results56, go_sem]; rfl) rfl ?_
        exact ⟨rfl, H8.out⟩
      · have e3 : (e2 != 0) = true := by simpa using he
        have HE3 : Hid ((if e2 = 0 then Value.tuple #[.int .i64 3, .int .i64 0] else Value.tuple #[.int .i64 4, .int .i64 e2]) = Value.tuple #[.int .i64 4, .int .i64 e2]) := if_neg he
        go_wp2_with fail
        go_quiet (fail)
        go_wp2_with fail
        refine bodyPost_ret (v := _) (by simp [results, Try.results56, go_sem]; rfl) rfl ?_
        exact ⟨by first | rfl | exact congrArg Ending.returned HE3.out.symm, H8.out.below (RCStep.good _ _ _ _ _ _ _ _) (below_drewN (Below.refl _ _) nq)⟩

set_option maxHeartbeats 2000000 in
set_option maxRecDepth 100000 in
theorem rchkStep_go2 {T : TypeId} {f : Value → Array Value} (r y ring cells : Nat) (l : List Acc) (hs1 : 1 ≤ ring) (hs2 : ring ≤ 16) (fr : Int) (hf : 0 ≤ fr) (rs : Nat → Int) (last : Bool) (hf3 : Off3 f ring fr rs last) (L : List Int) (hL : ∀ x ∈ L, I64 x) (hlen : L.length ≤ 900) (hok : RepOk ring fr rs last L) (thr : Int) (hll : l.length ≤ 3000000000000) (er s n k i j d : Int) (hp : planK ring (Rep ring fr rs last L) = (false, er, s, n, k, i, j, d)) (hA : isA ring cells k i j) (v : Int) (hv : wordOf l k i j = v) (hvI : I64 v) (hd : 0 < d) (hw : ¬ v / 2 < d) (hok2 : RepOk ring fr rs last (L ++ [v])) (th2 : Bool) (e2 s2 n2 a2 b2' c2 d2' : Int) (hp2 : planK ring (Rep ring fr rs last (L ++ [v])) = (th2, e2, s2, n2, a2, b2', c2, d2')) :
    Lifts Try.prog 56 #[.pointer (some ⟨y, 3, none⟩), .pointer (some ⟨r, 0, none⟩), .int .i64 thr] (RCStep T f r y ring cells l L) (RCStep T f r y ring cells (l ++ [ldAcc thr k i j v]) (L ++ [v])) (.returned (if th2 = true then if e2 = 0 then .tuple #[.int .i64 3, .int .i64 0] else .tuple #[.int .i64 4, .int .i64 e2] else .tuple #[.int .i64 2, .int .i64 0])) := by
  obtain ⟨i0, hi, hI0, hI1, hI2⟩ := info_parts infoI64
  have HN2 := Lib.hid (Looks.right (A := RMemH r ring cells (l ++ [ldAcc thr k i j v])) (rnext_any (T := T) y ring hs1 hs2 fr hf rs last hf3 (L ++ [v]) (fun x hx => (List.mem_append.1 hx).elim (hL x) (fun h => by rw [List.mem_singleton.1 h]; exact hvI)) (by simp; omega) hok2 _ hp2))
  clear hok2 hp2
  have HRL := Lib.hid (rload_in r ring cells l hll thr k i j hA)
  rw [hv] at HRL
  intro w F h
  have HN := Lib.hid (Looks.right (A := RMemH r ring cells l) (rnext_any (T := T) y ring hs1 hs2 fr hf rs last hf3 L hL (by omega) hok _ hp))
  have HO := Lib.hid h
  have GR := Lib.hid (RCStep.good T f r y ring cells l L)
  have G2 := Lib.hid (RCStep.good T f r y ring cells (l ++ [ldAcc thr k i j v]) L)
  have e1 : ((ring : Int) != (ring : Int)) = false := by simp
  have HVI := Lib.hid hvI
  clear hok hp hL h hA hv hvI
  go_enter Try.func56, Try.ntmps56
  go_wp2_with fail
  refine (Stp.look GR.out HN.out (Stp.refl HO.out)).mono ?_
  rintro e w1 ⟨rfl, h1⟩
  have H1 := Lib.hid (h1.box GR.out #[.bool false, .int .i64 er, .int .i64 s, .int .i64 n, .int .i64 k, .int .i64 i, .int .i64 j, .int .i64 d] 149)
  have GX := Lib.hid (BlkH.good w1.heap.size #[.bool false, .int .i64 er, .int .i64 s, .int .i64 n, .int .i64 k, .int .i64 i, .int .i64 j, .int .i64 d] 149)
  clear h1 HN HO
  obtain ⟨b0, b1, b2, b3, b4, b5, b6, b7, bz⟩ := eight_cells H1.out.has.right.blk
  obtain ⟨_, rv, g1, _⟩ := H1.out.has.left.left
  obtain ⟨_, lv, g2, _⟩ := H1.out.has.left.right
  obtain ⟨q0, q1, q2, qz⟩ := three_cells g1
  obtain ⟨c0, c1, _, c10, c11, fz⟩ := rchk_cells hf3 g2
  clear g1 g2
  unfold planV8
  go_wp2_with fail
  go_quiet (fail)
  have H2 : Hid (Stp w ((w1.alloc (.cells #[.bool false, .int .i64 er, .int .i64 s, .int .i64 n, .int .i64 k, .int .i64 i, .int .i64 j, .int .i64 d] 149)).drewN nq) F _) := H1.out.below (GR.out.star GX.out) (below_drewN (Below.refl _ _) nq)
  clear H1
  go_wp2_with fail
  refine (Stp.lift (Lifts.left (B := BlkH w1.heap.size #[.bool false, .int .i64 er, .int .i64 s, .int .i64 n, .int .i64 k, .int .i64 i, .int .i64 j, .int .i64 d] 149) GX.out (Lifts.left (B := RChkH T f y L) (LstH.good _ _ _ _ _) HRL.out)) H2.out).mono ?_
  rintro e w4 ⟨rfl, h4⟩
  have H4 := Lib.hid h4
  clear h4 H2 HRL b0 b1 b2 b3 b4 b5 b6 b7 bz q0 q1 q2 qz c0 c1 c10 c11 fz
  obtain ⟨b0, b1, b2, b3, b4, b5, b6, b7, bz⟩ := eight_cells H4.out.has.right.blk
  go_wp2_with fail
  have d1 : decide (0 < d) = true := by simpa using hd
  have d2 : decide (v / 2 < d) = false := by simpa using hw
  clear hd hw
  go_quiet ((go_at_call 79; refine Calls.quiet_of_same (refStamp_q v HVI.out _)))
  have H5 := Lib.hid (H4.out.below (G2.out.star GX.out) (below_drewN (Below.refl _ _) nq)).fst
  clear H4 b0 b1 b2 b3 b4 b5 b6 b7 bz
  generalize w4.drewN nq = w5 at *
  obtain ⟨F4, ⟨FA4, FB4, hA4, ⟨lv4, k1, k2, k3, k4⟩, hF4, hd4⟩, c4⟩ := H5.out
  have HA4 := Lib.hid hA4
  have K1 := Lib.hid k1
  have K2 := Lib.hid k2
  have K3 := Lib.hid k3
  have K4 := Lib.hid k4
  have HFD4 := Lib.hid (And.intro hF4 hd4)
  have HC4 := Lib.hid c4
  obtain ⟨a4, ca4, rfl⟩ := ownAt_form k2
  obtain ⟨c0, c1, _, c10, c11, fz⟩ := rchk_cells hf3 k1
  have hown := k2
  have hyl := heap_lt k1
  clear hA4 k1 k2 k3 k4 hF4 hd4 c4 H5
  go_wp2_with (at_builtin; refine wpList_append_own_at _ rfl (.tmp 51) (.tmp 53) 86 rfl 0 2 i0 (.int .i64 0) 1 8 Try.underlying86 hi hI0 hI1 hI2 rfl (by decide) _ _ _ rfl (hown.alloc _) ⟨w5.heap.size, 0, none⟩ 1 1 [.int .i64 v] rfl rfl ?c1 ?c2 ?c3 ?c4 ?c5 ?_)
  case c1 => exact cell_one_new _ _ _
  case c2 => intro u hu; simp at hu; subst hu; rfl
  case c3 => unfold maxLen; omega
  case c4 => omega
  case c5 => omega
  · intro v' w6 hown' hgrow _ hwhere
    obtain ⟨a5, ca5, rfl⟩ := ownAt_form hown'
    have hC5 : Chg (fun b => (Value.slice a4 L.length ca4).ownBlock = some b) w5 w6 := (Chg.alloc _ _ _).grow hgrow (fun b hb _ => hb)
    obtain ⟨t0, t1, _, t10, t11, tz⟩ := rchk_cells hf3 ((hC5.block y hyl (fun e => K3.out e)).trans K1.out)
    have hM5 := lst_grown (i := 14) (f := f) (L' := L ++ [v]) K1.out K3.out K4.out (hf3.set _ _) (by rw [List.map_append, List.length_append]; exact hown') hC5 (by
      rcases hwhere with e | e
      · exact .inl e
      · exact .inr ⟨_, e, by simp⟩)
    have H6 : Hid (Stp w _ F (RCStep T f r y ring cells (l ++ [ldAcc thr k i j v]) (L ++ [v]))) := Stp.comp HC4.out.1 HC4.out.2 (hM5.right (RMemH.good _ _ _ _) HA4.out HFD4.out.1 HFD4.out.2)
    clear hown hown' hgrow hwhere hC5 hM5 c0 c1 c10 c11 fz
    go_wp2_with fail
    refine (Stp.look (RCStep.good _ _ _ _ _ _ _ _) HN2.out H6.out).mono ?_
    rintro e w7 ⟨rfl, h7⟩
    have H7 := Lib.hid h7
    clear h7 H6 t0 t1 t10 t11 tz
    obtain ⟨b0, b1, b2, b3, b4, b5, b6, b7, bz⟩ := eight_cells (heapAlloc w7 (.cells #[.bool th2, .int .i64 e2, .int .i64 s2, .int .i64 n2, .int .i64 a2, .int .i64 b2', .int .i64 c2, .int .i64 d2'] 149))
    have H8 : Hid (Stp w (w7.alloc (.cells #[.bool th2, .int .i64 e2, .int .i64 s2, .int .i64 n2, .int .i64 a2, .int .i64 b2', .int .i64 c2, .int .i64 d2'] 149)) F _) := H7.out.below (RCStep.good _ _ _ _ _ _ _ _) ((Below.refl _ _).alloc (Nat.le_refl _) _)
    clear H7
    unfold planV8
    cases th2 with
    | false =>
      go_wp2_with fail
      refine bodyPost_ret (v := _) (by simp [results, Try.results56, go_sem]; rfl) rfl ?_
      exact ⟨rfl, H8.out⟩
    | true =>
      by_cases he : e2 = 0
      · subst he
        go_wp2_with fail
        refine bodyPost_ret (v := _) (by simp [results, Try.results56, go_sem]; rfl) rfl ?_
        exact ⟨rfl, H8.out⟩
      · have e3 : (e2 != 0) = true := by simpa using he
        have HE3 : Hid ((if e2 = 0 then Value.tuple #[.int .i64 3, .int .i64 0] else Value.tuple #[.int .i64 4, .int .i64 e2]) = Value.tuple #[.int .i64 4, .int .i64 e2]) := if_neg he
        go_wp2_with fail
        go_quiet (fail)
        go_wp2_with fail
        refine bodyPost_ret (v := _) (by simp [results, Try.results56, go_sem]; rfl) rfl ?_
        exact ⟨by first | rfl | exact congrArg Ending.returned HE3.out.symm, H8.out.below (RCStep.good _ _ _ _ _ _ _ _) (below_drewN (Below.refl _ _) nq)⟩

open Go.RowKit
set_option linter.unusedVariables false
theorem planK_4 {size : Nat} {s : CS} {e : Int} (h : s.st = 4) : planK size (s, e) = (true, 0, s.start, s.seen, 0, 0, 0, 0) := by simp [planK, h]
theorem planK_5 {size : Nat} {s : CS} {e : Int} (h : 4 ≤ s.st) (h4 : s.st ≠ 4) : planK size (s, e) = (true, e, 0, 0, 0, 0, 0, 0) := by simp [planK, h, h4]
theorem planK_on {size : Nat} {s : CS} {e : Int} (h : s.st < 4) {a b c : Int} (ha : addrK size s = (a, b, c)) : planK size (s, e) = (false, 0, 0, 0, a, b, c, if s.st = 1 then s.sk else 0) := by
  have h4 : s.st ≠ 4 := by omega
  have h5 : ¬ 4 ≤ s.st := by omega
  simp [planK, h4, h5, ha]
/-- How the two machines' memories are bound. -/
structure KRel (size : Nat) (fr : Int) (rs : Nat → Int) (last : Bool) (s : CS) (e : Int) (L : List Int) : Prop where
  rep : Rep size fr rs last L = (s, e)
  ok : RepOk size fr rs last L
  inv : KInv size fr rs s L.length
  num : ∀ z ∈ L, I64 z
  err : s.st = 5 → e ≠ 0
theorem KInv.st {size : Nat} {fr : Int} {rs : Nat → Int} {s : CS} {len : Nat} (h : KInv size fr rs s len) (h4 : 4 ≤ s.st) (hn : s.st ≠ 4) : s.st = 5 := by
  unfold KInv at h
  rcases h with h | h | h | h | h <;> omega
end Go.Proofs.Ytojkeahffabifaa
