/- The walk of RingSees; the reading of its list. -/
import Derived.Test.YtphnhkoklnladaaC4z
import Derived.Test.YtphnhkoklnladaaG0
import Derived.Test.YtphnhkoklnladaaRT
import Derived.StillTailTactics
import Derived.Deep.RegionLaw
namespace Go.Proofs.Ytphnhkoklnladaa
open Go.RowKit
set_option linter.unusedVariables false
theorem shown4r_any (w : World) : Calls Try.prog 5 #[] w fun e w' => e = .returned (.bool true) ∧ w = w' := by
  go_enter Try.func5, Try.ntmps5
  go_wp2
  go_ret
  exact ⟨rfl, rfl⟩
abbrev TwoM (p r R C : Nat) (l l' : List Acc) : HP := Star (MemH p R C l) (RMemH r R C l')
theorem TwoM.good (p r R C : Nat) (l l' : List Acc) : Good (TwoM p r R C l l') := (MemH.good _ _ _ _).star (RMemH.good _ _ _ _)
def SeesAt (w : World) (p r R C k : Nat) (wr : World) : Prop := ∃ l, AtW w (TwoM p r R C l l) wr ∧ l.length ≤ k ∧ OkW l
section
variable {w wr w' : World} {p r R C k : Nat}
theorem SeesAt.below (h : SeesAt w p r R C k wr) : Below w.heap.size w wr := by
  obtain ⟨l, h1, _⟩ := h
  exact h1.below
theorem SeesAt.calm (h : SeesAt w p r R C k wr) (hb : Below wr.heap.size wr w') : SeesAt w p r R C k w' := by
  obtain ⟨l, h1, h2⟩ := h
  exact ⟨l, h1.calm (TwoM.good _ _ _ _ _ _) hb, h2⟩
def SeesMid (w : World) (p r R C k : Nat) (th a b d v : Int) (wr : World) : Prop := ∃ l, AtW w (TwoM p r R C (putL R C l th a b d v) l) wr ∧ l.length ≤ k ∧ OkW l
theorem SeesMid.below {th a b d v : Int} (h : SeesMid w p r R C k th a b d v wr) : Below w.heap.size w wr := by
  obtain ⟨l, h1, _⟩ := h
  exact h1.below
theorem SeesMid.calm {th a b d v : Int} (h : SeesMid w p r R C k th a b d v wr) (hb : Below wr.heap.size wr w') : SeesMid w p r R C k th a b d v w' := by
  obtain ⟨l, h1, h2⟩ := h
  exact ⟨l, h1.calm (TwoM.good _ _ _ _ _ _) hb, h2⟩
theorem sees_store1 (h : SeesAt w p r R C k wr) (hk : k ≤ 2000000) (th a b d v : Int) :
    Calls Try.prog 8 #[.pointer (some ⟨p, 0, none⟩), .int .i64 th, .agg #[.int .i64 a, .int .i64 b, .int .i64 d], .int .i64 v] wr fun e w' => (∃ z, e = .returned (.int .i64 z)) ∧ SeesMid w p r R C k th a b d v w' := by
  obtain ⟨l, h1, h2, h3⟩ := h
  refine ((Lifts.left (RMemH.good _ _ _ _) (store_any p R C l (by omega) th a b d v)).at h1).mono ?_
  rintro e w' ⟨rfl, h⟩
  exact ⟨⟨_, rfl⟩, l, h, h2, h3⟩
theorem sees_store2 {th a b d v : Int} (h : SeesMid w p r R C k th a b d v wr) (hk : k ≤ 2000000) (hv : I64 v) :
    Calls Try.prog 14 #[.pointer (some ⟨r, 0, none⟩), .int .i64 th, .agg #[.int .i64 a, .int .i64 b, .int .i64 d], .int .i64 v] wr fun e w' => (∃ z, e = .returned (.int .i64 z)) ∧ SeesAt w p r R C (k + 1) w' := by
  obtain ⟨l, h1, h2, h3⟩ := h
  refine ((Lifts.right (MemH.good _ _ _ _) (rstore_any r R C l (by omega) th a b d v)).at h1).mono ?_
  rintro e w' ⟨rfl, h⟩
  have := putL_len R C l th a b d v
  exact ⟨⟨_, rfl⟩, _, h, by omega, okW_put h3 th a b d v hv⟩
theorem sees_at (hr1 : 1 ≤ R) (hr2 : R ≤ 16) (h : SeesAt w p r R C k wr) (hk : k ≤ 2000000) :
    Calls Try.prog 15 #[.pointer (some ⟨p, 0, none⟩), .pointer (some ⟨r, 0, none⟩)] wr fun e w' => e = .returned (.bool true) ∧ SeesAt w p r R C k w' := by
  have HP := Lib.hid h
  obtain ⟨l, ⟨F, ⟨FA, FB, hA, hB, _, _⟩, _, _⟩, h2, h3⟩ := h
  refine (sees4_any p r R C hr1 hr2 l (by omega) h3 wr FA FB hA hB).mono ?_
  rintro e w' ⟨rfl, hb⟩
  exact ⟨rfl, HP.out.calm hb⟩
/-- The count, and the reference's list. -/
theorem sees_count (h : SeesAt w p r R C k wr) : ∃ (n : Nat), Calls Try.prog 16 #[.pointer (some ⟨p, 0, none⟩)] wr fun e w' => e = .returned (.int .i64 n) ∧ Below w.heap.size w w' ∧ ∃ a c, w'.cell? ⟨r, 2, none⟩ = some (.slice a n c) ∧ ∀ o, w'.frozen? ⟨r, o, none⟩ = false := by
  have HP := Lib.hid h
  obtain ⟨l, ⟨F, ⟨FA, FB, hA, hB, _, _⟩, _, _⟩, h2, h3⟩ := h
  refine ⟨l.length, (count_any p R C l wr FA hA).mono ?_⟩
  rintro e w' ⟨rfl, hb⟩
  refine ⟨rfl, (HP.out.calm hb).below, ?_⟩
  obtain ⟨lv, g1, g2, _⟩ := (RMemH.good _ _ _ _).calm hB hb
  obtain ⟨a, c, rfl⟩ := ownAt_form g2
  obtain ⟨_, _, q2, qz⟩ := three_cells g1
  exact ⟨a, c, q2, qz⟩
end
set_option maxRecDepth 100000 in
set_option maxHeartbeats 4000000 in
theorem ringSees_law {w : World} (cells : Int) (wc : (Lit.int .i64 cells).wf = true) (size : Int) (ws : (Lit.int .i64 size).wf = true) (a : Option Addr) (len cap : Nat) (q : Nat → Nat → Int) (hg : Grid w a len 4 q) (hlc : len ≤ cap) (hcm : cap ≤ maxLen) (hq : ∀ i j, (Lit.int .i64 (q i j)).wf = true) (hsmall : len ≤ 1048576) :
    Calls Try.prog 4 #[.int .i64 cells, .int .i64 size, .slice a len cap] w fun e w' => e = .returned (.bool true) ∧ Below w.heap.size w w' := by
  have HG := Lib.hid hg
  have HQ := Lib.hid hq
  unfold maxLen at hcm
  clear ws wc hg hq
  have HT := Lib.hid (rtakes_any cells size)
  by_cases hs : (1 ≤ cells ∧ cells ≤ 1024) ∧ 1 ≤ size ∧ size ≤ 16
  · rw [decide_eq_true hs] at HT
    obtain ⟨C, rfl⟩ : ∃ n : Nat, cells = n := ⟨cells.toNat, by omega⟩
    obtain ⟨R, rfl⟩ : ∃ n : Nat, size = n := ⟨size.toNat, by omega⟩
    have hr1 : 1 ≤ R := by omega
    have hr2 : R ≤ 16 := by omega
    have HM := Lib.hid (memNew_any C R (by omega) (by omega) (by omega) (by omega))
    have HR := Lib.hid (rmemNew_any C R)
    clear hs
    go_enter Try.func4, Try.ntmps4
    go_wp2_with fail
    refine (shown4r_any w).mono ?_; rintro e w' ⟨rfl, rfl⟩
    go_wp2_with fail
    refine (HT.out w).mono ?_; rintro e w' ⟨rfl, rfl⟩
    go_wp2_with fail
    refine (HM.out w).mono ?_; rintro e w3 ⟨p, rfl, h⟩
    have H3 := Lib.hid h
    clear h
    go_wp2_with fail
    refine (HR.out w3).mono ?_; rintro e w4 ⟨r, rfl, h⟩
    have H4 := Lib.hid (H3.out.new (MemH.good _ _ _ _) h)
    clear h H3
    have H5 : Hid (SeesAt w p r R C 0 w4) := ⟨[], H4.out, Nat.zero_le _, okW_nil⟩
    clear H4 HM HR HT
    go_wp2_with fail
    go_loopw [12] (fun i wr => ∃ k : Nat, k ≤ len ∧ i = .int .i64 k ∧ Hid (SeesAt w p r R C k wr)) (fun i _ => len - (intOf i).toNat)
    case atStart => exact ⟨0, by omega, rfl, H5.out⟩
    case round =>
      obtain ⟨k, hk, rfl, HE⟩ := hrel
      clear H5
      by_cases hlt : k < len
      · obtain ⟨b, off, rfl, hbw, hcell⟩ := HG.out.resolve_left (by omega)
        have hbel := HE.out.below
        have c0 := (hbel.cell (p := ⟨b, off + k * 4 + 0, none⟩) hbw).trans (hcell k hlt 0 (by omega))
        simp only [Nat.add_zero] at c0
        have c1 := (hbel.cell (p := ⟨b, off + k * 4 + 1, none⟩) hbw).trans (hcell k hlt 1 (by omega))
        have c2 := (hbel.cell (p := ⟨b, off + k * 4 + 2, none⟩) hbw).trans (hcell k hlt 2 (by omega))
        have c3 := (hbel.cell (p := ⟨b, off + k * 4 + 3, none⟩) hbw).trans (hcell k hlt 3 (by omega))
        have HX := Lib.hid (sees_store1 (HE.out.calm ((Below.refl _ _).drew)) (by omega) 0 (q k 0) (q k 1) (q k 2) (q k 3))
        go_wp2_with fail
        go_still_tail 11, (by kernel_rfl)
        change wpList _ _ _ _ _ wr.drew
        go_wp2_with fail
        refine HX.out.mono ?_; rintro e w5 ⟨⟨z, rfl⟩, h⟩
        have H5 := Lib.hid h
        have hbel5 := h.below
        clear h HX c0 c1 c2 c3 hbel
        have c0 := (hbel5.cell (p := ⟨b, off + k * 4 + 0, none⟩) hbw).trans (hcell k hlt 0 (by omega))
        simp only [Nat.add_zero] at c0
        have c1 := (hbel5.cell (p := ⟨b, off + k * 4 + 1, none⟩) hbw).trans (hcell k hlt 1 (by omega))
        have c2 := (hbel5.cell (p := ⟨b, off + k * 4 + 2, none⟩) hbw).trans (hcell k hlt 2 (by omega))
        have c3 := (hbel5.cell (p := ⟨b, off + k * 4 + 3, none⟩) hbw).trans (hcell k hlt 3 (by omega))
        have HX := Lib.hid (sees_store2 (H5.out.calm ((Below.refl _ _).drew)) (by omega) (I64.of_wf (HQ.out k 3)))
        clear hcell hbel5 H5
        go_wp2_with fail
        go_still_tail 11, (by kernel_rfl)
        change wpList _ _ _ _ _ w5.drew
        go_wp2_with fail
        refine HX.out.mono ?_; rintro e w6 ⟨⟨z, rfl⟩, h⟩
        have HX2 := Lib.hid (sees_at hr1 hr2 h (by omega))
        clear h HX c0 c1 c2 c3
        go_wp2_with fail
        refine HX2.out.mono ?_; rintro e w7 ⟨rfl, h⟩
        have H6 := Lib.hid h
        clear h HX2
        go_wp2_with fail
        go_roundw
        case rel => exact ⟨k + 1, by omega, by go_num, H6.out⟩
        case measure => simp [intOf]; omega
      · obtain rfl : k = len := by omega
        have HX := Lib.hid (sees_at hr1 hr2 HE.out (by omega))
        go_wp2_with fail
        refine HX.out.mono ?_; rintro e w7 ⟨rfl, h⟩
        obtain ⟨nc, hc⟩ := sees_count h
        have HC := Lib.hid hc
        clear h hc HX
        go_wp2_with fail
        refine HC.out.mono ?_; rintro e w8 ⟨rfl, hb, a2, c2, z2, zz⟩
        have HB := Lib.hid hb
        clear hb HC
        go_wp2_with fail
        go_ret
        exact ⟨ret_bool (by simp), HB.out⟩
  · rw [decide_eq_false hs] at HT
    clear hs
    go_enter Try.func4, Try.ntmps4
    go_wp2_with fail
    refine (shown4r_any w).mono ?_; rintro e w' ⟨rfl, rfl⟩
    go_wp2_with fail
    refine (HT.out w).mono ?_; rintro e w' ⟨rfl, rfl⟩
    go_wp2_with fail
    go_ret
    exact ⟨rfl, Below.refl _ _⟩
end Go.Proofs.Ytphnhkoklnladaa
namespace Go.Proofs.Ytphnhkoklnladaa
open Go.ChangeShapes Go.WideShapes Go.Deep Go.RowKit
section
variable {H : Type} {enc : TypeId × Value → H} {w : World} {base : Nat} {spare : Nat → Bool} {held : Bool}
theorem flatPut4 : flat Try.prog 6 46 = some [3, 3, 3, 2] := by kernel_rfl
theorem intsPut4 : ∀ u ∈ [3, 3, 3, 2], Try.prog.underlying u = some (.int .i64) := by
  intro u hu
  simp only [List.mem_cons, List.not_mem_nil, or_false] at hu
  rcases hu with h | h | h | h <;> rw [h]
  · exact Try.underlying3
  · exact Try.underlying3
  · exact Try.underlying3
  · exact Try.underlying2
set_option maxRecDepth 100000 in
theorem open_puts4 {r : Reach} {b0 : Nat} {v : Value} {d : DataW H} {p : List MemPlace} (hv : Value.okWide Try.prog w r b0 41 v) (h : DataW.Trod enc Try.prog w base spare held 41 v d p) :
    ∃ a len cap q, v = .slice a len cap ∧ Grid w a len 4 q ∧ len ≤ cap ∧ cap ≤ maxLen ∧ (∀ i j, (Lit.int .i64 (q i j)).wf = true) ∧ InD d len := by
  obtain ⟨a, len, cap, q, rfl, h1, h2, h3, h4⟩ := open_grid (sz := 4) Try.underlying41 flatPut4 (by kernel_rfl) rfl (Nat.succ_pos 3) intsPut4 hv h
  exact ⟨a, len, cap, q, rfl, h1, h2, h3, h4, slice_inD Try.underlying41 h⟩
end
end Go.Proofs.Ytphnhkoklnladaa
