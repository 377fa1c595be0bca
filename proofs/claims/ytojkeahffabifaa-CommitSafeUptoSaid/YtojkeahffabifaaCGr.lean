/- The ring that grows: Act, whatever. -/
import Derived.Test.YtojkeahffabifaaCGp
import Derived.Test.YtojkeahffabifaaCGs
import Derived.Test.YtojkeahffabifaaRT
namespace Go.Proofs.Ytojkeahffabifaa
open Go.RowKit
set_option linter.unusedVariables false
set_option maxHeartbeats 2000000 in
set_option maxRecDepth 100000 in
theorem act_lay (p x size cells : Nat) (l : List Acc) (g : GS) (hi : GInv size cells g l) (hs1 : 1 ≤ size) (hs2 : size ≤ 16) (hlen : l.length ≤ 90000000000) (kind : Int) (hk : kind % 5 = 1) (v : Value) (w : World) (F : Nat → Prop) (hO : MG p x size cells l g w F) :
    Calls Try.prog 9 #[.pointer (some ⟨x, 0, none⟩), .pointer (some ⟨p, 0, none⟩), .int .i64 kind, v] w (ActTo w F (MG p x size cells (layG size g l).2 (layG size g l).1)) := by
    have HP : Hid (∀ w, Calls Try.prog 7 #[.int .i64 kind, .int .i64 5] w fun e w' => e = .returned (.int .i64 1) ∧ w = w') := fun w => by
      have h := pick_any kind 5 (by decide) (by decide) w
      unfold pickZ at h
      rw [hk] at h
      exact h
    have HSZ := Lib.hid ((Looks.left (B := GrowH x size g) (sizes_any p size cells l)) w F hO)
    have HL := Lib.hid (lay_any p x size cells l g hi hs1 hs2 hlen)
    have HO := Lib.hid hO
    clear hO hi hk
    go_enter Try.func9, Try.ntmps9
    go_wp2_with fail
    refine HSZ.out.mono ?_; rintro e w1 ⟨rfl, hb1⟩
    have HO1 := Lib.hid ((Stp.refl HO.out).below (MG.good _ _ _ _ _ _) hb1)
    clear hb1 HSZ HO
    go_wp2_with fail
    refine (HP.out w1).mono ?_; rintro e w' ⟨rfl, rfl⟩
    go_wp2_with fail
    refine (Stp.lift HL.out HO1.out).mono ?_; rintro e w3 ⟨rfl, h⟩
    have H3 := Lib.hid h
    clear h
    go_wp2_with fail
    refine bodyPost_end (results_none rfl _ _ _) rfl ?_
    exact ⟨rfl, H3.out⟩
set_option maxHeartbeats 2000000 in
set_option maxRecDepth 100000 in
theorem act_back (p x size cells : Nat) (l : List Acc) (g : GS) (hi : GInv size cells g l) (hs1 : 1 ≤ size) (hs2 : size ≤ 16) (hlen : l.length ≤ 90000000000) (kind : Int) (hk : kind % 5 = 2) (v : Value) (w : World) (F : Nat → Prop) (hO : MG p x size cells l g w F) :
    Calls Try.prog 9 #[.pointer (some ⟨x, 0, none⟩), .pointer (some ⟨p, 0, none⟩), .int .i64 kind, v] w (ActTo w F (MG p x size cells (backG g l).2 (backG g l).1)) := by
    have HP : Hid (∀ w, Calls Try.prog 7 #[.int .i64 kind, .int .i64 5] w fun e w' => e = .returned (.int .i64 2) ∧ w = w') := fun w => by
      have h := pick_any kind 5 (by decide) (by decide) w
      unfold pickZ at h
      rw [hk] at h
      exact h
    have HSZ := Lib.hid ((Looks.left (B := GrowH x size g) (sizes_any p size cells l)) w F hO)
    have HL := Lib.hid (back_any p x size cells l g hi hs1 hs2 hlen)
    have HO := Lib.hid hO
    clear hO hi hk
    go_enter Try.func9, Try.ntmps9
    go_wp2_with fail
    refine HSZ.out.mono ?_; rintro e w1 ⟨rfl, hb1⟩
    have HO1 := Lib.hid ((Stp.refl HO.out).below (MG.good _ _ _ _ _ _) hb1)
    clear hb1 HSZ HO
    go_wp2_with fail
    refine (HP.out w1).mono ?_; rintro e w' ⟨rfl, rfl⟩
    go_wp2_with fail
    refine (Stp.lift HL.out HO1.out).mono ?_; rintro e w3 ⟨rfl, h⟩
    have H3 := Lib.hid h
    clear h
    go_wp2_with fail
    refine bodyPost_end (results_none rfl _ _ _) rfl ?_
    exact ⟨rfl, H3.out⟩
set_option maxHeartbeats 2000000 in
set_option maxRecDepth 100000 in
theorem act_end (p x size cells : Nat) (l : List Acc) (g : GS) (hi : GInv size cells g l) (hs1 : 1 ≤ size) (hs2 : size ≤ 16) (hlen : l.length ≤ 90000000000) (kind : Int) (hk : kind % 5 = 3) (v : Value) (w : World) (F : Nat → Prop) (hO : MG p x size cells l g w F) :
    Calls Try.prog 9 #[.pointer (some ⟨x, 0, none⟩), .pointer (some ⟨p, 0, none⟩), .int .i64 kind, v] w (ActTo w F (MG p x size cells (endG size g l).2 (endG size g l).1)) := by
    have HP : Hid (∀ w, Calls Try.prog 7 #[.int .i64 kind, .int .i64 5] w fun e w' => e = .returned (.int .i64 3) ∧ w = w') := fun w => by
      have h := pick_any kind 5 (by decide) (by decide) w
      unfold pickZ at h
      rw [hk] at h
      exact h
    have HSZ := Lib.hid ((Looks.left (B := GrowH x size g) (sizes_any p size cells l)) w F hO)
    have HL := Lib.hid (end_any p x size cells l g hi hs1 hs2 hlen)
    have HO := Lib.hid hO
    clear hO hi hk
    go_enter Try.func9, Try.ntmps9
    go_wp2_with fail
    refine HSZ.out.mono ?_; rintro e w1 ⟨rfl, hb1⟩
    have HO1 := Lib.hid ((Stp.refl HO.out).below (MG.good _ _ _ _ _ _) hb1)
    clear hb1 HSZ HO
    go_wp2_with fail
    refine (HP.out w1).mono ?_; rintro e w' ⟨rfl, rfl⟩
    go_wp2_with fail
    refine (Stp.lift HL.out HO1.out).mono ?_; rintro e w3 ⟨rfl, h⟩
    have H3 := Lib.hid h
    clear h
    go_wp2_with fail
    refine bodyPost_end (results_none rfl _ _ _) rfl ?_
    exact ⟨rfl, H3.out⟩
def itB (a : GS × List Acc) : Nat → GS × List Acc
  | 0 => a
  | j + 1 => backG (itB a j).1 (itB a j).2
theorem allG_it (size : Nat) (g : GS) (l : List Acc) : allG size g l = if (if g.done = g.laid then layG size g l else (g, l)).1.done < (if g.done = g.laid then layG size g l else (g, l)).1.laid then endG size (itB (if g.done = g.laid then layG size g l else (g, l)) 4).1 (itB (if g.done = g.laid then layG size g l else (g, l)) 4).2 else (if g.done = g.laid then layG size g l else (g, l)) := rfl
set_option maxHeartbeats 2000000 in
set_option maxRecDepth 100000 in
theorem act_all (p x size cells : Nat) (l : List Acc) (g : GS) (hi : GInv size cells g l) (hs1 : 1 ≤ size) (hs2 : size ≤ 16) (hlen : l.length ≤ 80000000000) (kind : Int) (hk : kind % 5 = 4) (v : Value) (w : World) (F : Nat → Prop) (hO : MG p x size cells l g w F) :
    Calls Try.prog 9 #[.pointer (some ⟨x, 0, none⟩), .pointer (some ⟨p, 0, none⟩), .int .i64 kind, v] w (ActTo w F (MG p x size cells (allG size g l).2 (allG size g l).1)) := by
    have HP : Hid (∀ w, Calls Try.prog 7 #[.int .i64 kind, .int .i64 5] w fun e w' => e = .returned (.int .i64 4) ∧ w = w') := fun w => by
      have h := pick_any kind 5 (by decide) (by decide) w
      unfold pickZ at h
      rw [hk] at h
      exact h
    have HSZ := Lib.hid ((Looks.left (B := GrowH x size g) (sizes_any p size cells l)) w F hO)
    have HO := Lib.hid hO
    obtain ⟨a, HA⟩ : ∃ a, Hid ((if g.done = g.laid then layG size g l else (g, l)) = a) := ⟨_, rfl⟩
    have HI : Hid (GInv size cells a.1 a.2) := by
      show GInv _ _ _ _
      rw [← HA.out]; split
      · exact (layG_inv hi hs1).inv
      · exact hi
    have hal : a.2.length ≤ l.length + 9 := by
      rw [← HA.out]; split
      · exact (layG_len size g l).1
      · simp only; omega
    have HL := Lib.hid (lay_any p x size cells l g hi hs1 hs2 (by omega))
    clear hO hi hk
    go_enter Try.func9, Try.ntmps9
    go_wp2_with fail
    refine HSZ.out.mono ?_; rintro e w1 ⟨rfl, hb1⟩
    have HO1 := Lib.hid ((Stp.refl HO.out).below (MG.good _ _ _ _ _ _) hb1)
    clear hb1 HSZ HO
    go_wp2_with fail
    refine (HP.out w1).mono ?_; rintro e w' ⟨rfl, rfl⟩
    obtain ⟨la, lc, hx⟩ := MG.rd HO1.out
    obtain ⟨p0, p1, p2, p3, fz⟩ := four_cells hx
    clear hx
    by_cases hdl : g.done = g.laid
    · have d0 : ((g.done : Int) == g.laid) = true := by rw [beq_iff_eq]; omega
      have hA1 : layG size g l = a := by have h := HA.out; rw [if_pos hdl] at h; exact h
      clear hdl
      go_wp2_with fail
      go_quiet (fail)
      have HO1x := Lib.hid (Stp.lift HL.out (HO1.out.below (MG.good _ _ _ _ _ _) (below_drewN (Below.refl w1.heap.size w1) nq)))
      rw [hA1] at HO1x
      clear p0 p1 p2 p3 fz HO1 hA1
      generalize w1.drewN nq = w2 at *
      go_wp2_with fail
      refine HO1x.out.mono ?_; rintro e w3 ⟨rfl, h⟩
      have HA1 := Lib.hid h
      clear h
      clear HO1x
      by_cases hlt : a.1.done < a.1.laid
      · have hB : allG size g l = endG size (itB a 4).1 (itB a 4).2 := by rw [allG_it, HA.out]; exact if_pos hlt
        have HBB := Lib.hid hB
        clear hB
        have d1 : decide ((a.1.done : Int) < a.1.laid) = true := by simpa using hlt
        obtain ⟨la, lc, hx⟩ := MG.rd HA1.out
        obtain ⟨p0, p1, p2, p3, fz⟩ := four_cells hx
        clear hx
        go_wp2_with fail
        go_quiet (fail)
        have HA2 := Lib.hid (HA1.out.below (MG.good _ _ _ _ _ _) (below_drewN (Below.refl w3.heap.size w3) nq))
        clear p0 p1 p2 p3 fz HA1
        generalize w3.drewN nq = w4 at *
        go_wp2_with fail
        go_loopw [12] (fun i wr => ∃ j : Nat, j ≤ 4 ∧ i = .int .i64 j ∧ Hid (Stp w wr F (MG p x size cells (itB a j).2 (itB a j).1) ∧ GInv size cells (itB a j).1 (itB a j).2 ∧ (itB a j).2.length ≤ a.2.length + j)) (fun i _ => 4 - (intOf i).toNat)
        case atStart => exact ⟨0, by omega, rfl, HA2.out, HI.out, Nat.le_refl _⟩
        case round =>
          obtain ⟨j, hj, rfl, HH⟩ := hrel
          by_cases hltj : j < 4
          · have HBK := Lib.hid (Stp.lift (back_any p x size cells (itB a j).2 (itB a j).1 HH.out.2.1 hs1 hs2 (by have := HH.out.2.2; omega)) HH.out.1)
            have HN : Hid (GInv size cells (itB a (j + 1)).1 (itB a (j + 1)).2 ∧ (itB a (j + 1)).2.length ≤ a.2.length + (j + 1)) := ⟨(backG_inv HH.out.2.1).inv, by have h1 := (backG_len (itB a j).1 (itB a j).2).1; have h2 := HH.out.2.2; show (backG (itB a j).1 (itB a j).2).2.length ≤ _; omega⟩
            go_wp2_with fail
            refine HBK.out.mono ?_; rintro e w5 ⟨rfl, h⟩
            have H5 : Hid (Stp w w5 F (MG p x size cells (itB a (j + 1)).2 (itB a (j + 1)).1)) := h
            clear h HBK HH
            go_wp2_with fail
            go_roundw
            case rel => exact ⟨j + 1, by omega, by go_num, H5.out, HN.out.1, HN.out.2⟩
            case measure => simp [intOf]; omega
          · obtain rfl : j = 4 := by omega
            have HEN := Lib.hid (Stp.lift (end_any p x size cells (itB a 4).2 (itB a 4).1 HH.out.2.1 hs1 hs2 (by have := HH.out.2.2; omega)) HH.out.1)
            go_wp2_with fail
            refine HEN.out.mono ?_; rintro e w5 ⟨rfl, h⟩
            have H5 := Lib.hid h
            clear h HEN HH
            go_wp2_with fail
            refine bodyPost_end (results_none rfl _ _ _) rfl ?_
            exact ⟨rfl, by rw [HBB.out]; exact H5.out⟩
      · have hB : allG size g l = a := by rw [allG_it, HA.out]; exact if_neg hlt
        have HBB := Lib.hid hB
        clear hB
        have d1 : decide ((a.1.done : Int) < a.1.laid) = false := by simpa using hlt
        obtain ⟨la, lc, hx⟩ := MG.rd HA1.out
        obtain ⟨p0, p1, p2, p3, fz⟩ := four_cells hx
        clear hx
        go_wp2_with fail
        go_quiet (fail)
        go_wp2_with fail
        refine bodyPost_end (results_none rfl _ _ _) rfl ?_
        exact ⟨rfl, by rw [HBB.out]; exact HA1.out.below (MG.good _ _ _ _ _ _) (below_drewN (Below.refl _ _) _)⟩
    · have d0 : ((g.done : Int) == g.laid) = false := by rw [beq_eq_false_iff_ne]; omega
      have hA1 : (g, l) = a := by have h := HA.out; rw [if_neg hdl] at h; exact h
      clear hdl
      go_wp2_with fail
      go_quiet (fail)
      have HO1x := Lib.hid (HO1.out.below (MG.good _ _ _ _ _ _) (below_drewN (Below.refl w1.heap.size w1) nq))
      have HA1 : Hid (Stp w (w1.drewN nq) F (MG p x size cells a.2 a.1)) := by rw [← hA1]; exact HO1x.out
      clear p0 p1 p2 p3 fz HO1 hA1
      generalize w1.drewN nq = w3 at *
      clear HO1x
      by_cases hlt : a.1.done < a.1.laid
      · have hB : allG size g l = endG size (itB a 4).1 (itB a 4).2 := by rw [allG_it, HA.out]; exact if_pos hlt
        have HBB := Lib.hid hB
        clear hB
        have d1 : decide ((a.1.done : Int) < a.1.laid) = true := by simpa using hlt
        obtain ⟨la, lc, hx⟩ := MG.rd HA1.out
        obtain ⟨p0, p1, p2, p3, fz⟩ := four_cells hx
        clear hx
        go_wp2_with fail
        go_quiet (fail)
        have HA2 := Lib.hid (HA1.out.below (MG.good _ _ _ _ _ _) (below_drewN (Below.refl w3.heap.size w3) nq))
        clear p0 p1 p2 p3 fz HA1
        generalize w3.drewN nq = w4 at *
        go_wp2_with fail
        go_loopw [12] (fun i wr => ∃ j : Nat, j ≤ 4 ∧ i = .int .i64 j ∧ Hid (Stp w wr F (MG p x size cells (itB a j).2 (itB a j).1) ∧ GInv size cells (itB a j).1 (itB a j).2 ∧ (itB a j).2.length ≤ a.2.length + j)) (fun i _ => 4 - (intOf i).toNat)
        case atStart => exact ⟨0, by omega, rfl, HA2.out, HI.out, Nat.le_refl _⟩
        case round =>
          obtain ⟨j, hj, rfl, HH⟩ := hrel
          by_cases hltj : j < 4
          · have HBK := Lib.hid (Stp.lift (back_any p x size cells (itB a j).2 (itB a j).1 HH.out.2.1 hs1 hs2 (by have := HH.out.2.2; omega)) HH.out.1)
            have HN : Hid (GInv size cells (itB a (j + 1)).1 (itB a (j + 1)).2 ∧ (itB a (j + 1)).2.length ≤ a.2.length + (j + 1)) := ⟨(backG_inv HH.out.2.1).inv, by have h1 := (backG_len (itB a j).1 (itB a j).2).1; have h2 := HH.out.2.2; show (backG (itB a j).1 (itB a j).2).2.length ≤ _; omega⟩
            go_wp2_with fail
            refine HBK.out.mono ?_; rintro e w5 ⟨rfl, h⟩
            have H5 : Hid (Stp w w5 F (MG p x size cells (itB a (j + 1)).2 (itB a (j + 1)).1)) := h
            clear h HBK HH
            go_wp2_with fail
            go_roundw
            case rel => exact ⟨j + 1, by omega, by go_num, H5.out, HN.out.1, HN.out.2⟩
            case measure => simp [intOf]; omega
          · obtain rfl : j = 4 := by omega
            have HEN := Lib.hid (Stp.lift (end_any p x size cells (itB a 4).2 (itB a 4).1 HH.out.2.1 hs1 hs2 (by have := HH.out.2.2; omega)) HH.out.1)
            go_wp2_with fail
            refine HEN.out.mono ?_; rintro e w5 ⟨rfl, h⟩
            have H5 := Lib.hid h
            clear h HEN HH
            go_wp2_with fail
            refine bodyPost_end (results_none rfl _ _ _) rfl ?_
            exact ⟨rfl, by rw [HBB.out]; exact H5.out⟩
      · have hB : allG size g l = a := by rw [allG_it, HA.out]; exact if_neg hlt
        have HBB := Lib.hid hB
        clear hB
        have d1 : decide ((a.1.done : Int) < a.1.laid) = false := by simpa using hlt
        obtain ⟨la, lc, hx⟩ := MG.rd HA1.out
        obtain ⟨p0, p1, p2, p3, fz⟩ := four_cells hx
        clear hx
        go_wp2_with fail
        go_quiet (fail)
        go_wp2_with fail
        refine bodyPost_end (results_none rfl _ _ _) rfl ?_
        exact ⟨rfl, by rw [HBB.out]; exact HA1.out.below (MG.good _ _ _ _ _ _) (below_drewN (Below.refl _ _) _)⟩
/-- An act, whatever. -/
theorem act_any (p x size cells : Nat) (l : List Acc) (g : GS) (hi : GInv size cells g l) (hs1 : 1 ≤ size) (hs2 : size ≤ 16) (hc1 : 1 ≤ cells) (hc2 : cells ≤ 1000000) (hlen : l.length ≤ 80000000000) (hb : g.es.length < 100000000) (kind : Int) (a : Option Addr) (len cap : Nat) (q : Nat → Nat → Int) (hl : len ≤ 9223372036854775807) (w : World) (F : Nat → Prop) (hg : Grid w a len 2 q) (hO : MG p x size cells l g w F) :
    Calls Try.prog 9 #[.pointer (some ⟨x, 0, none⟩), .pointer (some ⟨p, 0, none⟩), .int .i64 kind, .slice a len cap] w (ActTo w F (MG p x size cells (actG size cells g l kind (fitZ cells q (min len 4))).2 (actG size cells g l kind (fitZ cells q (min len 4))).1)) := by
  unfold actG
  by_cases h0 : kind % 5 = 0
  · rw [if_pos h0]; exact act_pub p x size cells l g hi hs1 hs2 hc1 hc2 (by omega) hb kind h0 a len cap q hl w F hg hO
  rw [if_neg h0]
  by_cases h1 : kind % 5 = 1
  · rw [if_pos h1]; exact act_lay p x size cells l g hi hs1 hs2 (by omega) kind h1 _ w F hO
  rw [if_neg h1]
  by_cases h2 : kind % 5 = 2
  · rw [if_pos h2]; exact act_back p x size cells l g hi hs1 hs2 (by omega) kind h2 _ w F hO
  rw [if_neg h2]
  by_cases h3 : kind % 5 = 3
  · rw [if_pos h3]; exact act_end p x size cells l g hi hs1 hs2 (by omega) kind h3 _ w F hO
  rw [if_neg h3]
  exact act_all p x size cells l g hi hs1 hs2 hlen kind (by omega) _ w F hO
end Go.Proofs.Ytojkeahffabifaa
namespace Go.Proofs.Ytojkeahffabifaa
open Go.RowKit
set_option linter.unusedVariables false
theorem GInv.ld {size cells : Nat} {g : GS} {l : List Acc} (h : GInv size cells g l) (th a b c v : Int) : GInv size cells g (l ++ [ldAcc th a b c v]) := by
  obtain ⟨h1, h2, h3, h4, h5, h6, h7, h8, h9, h10, h11⟩ := h
  exact ⟨by rw [wordOf_ld]; exact h1, by rw [wordOf_ld]; exact h2, by rw [wordOf_ld]; exact h3, by rw [wordOf_ld]; exact h4, by rw [wordOf_ld]; exact h5, h6, h7, h8, h9, okW_ld h10 _ _ _ _ _, h11⟩
/-- A call on the first of two objects, where they were made. -/
theorem at_left {P : Program} {f : FuncId} {args : Array Value} {A A' B : HP} {v : Ending} (gb : Good B) {w0 wr : World} (h : AtW w0 (Star A B) wr) (hc : ∀ F, A wr F → Calls P f args wr fun e w' => e = v ∧ Stp wr w' F A') :
    Calls P f args wr fun e w' => e = v ∧ AtW w0 (Star A' B) w' := by
  obtain ⟨F, ⟨FA, FB, ha, hb, hF, hd⟩, h2, h3⟩ := h
  refine (hc FA ha).mono ?_
  rintro e w' ⟨rfl, hs⟩
  exact ⟨rfl, AtW.stp h2 h3 (hs.left gb hb hF hd)⟩
theorem at_it {P : Program} {f : FuncId} {args : Array Value} {A A' : HP} {v : Ending} {w0 wr : World} (h : AtW w0 A wr) (hc : ∀ F, A wr F → Calls P f args wr fun e w' => e = v ∧ Stp wr w' F A') :
    Calls P f args wr fun e w' => e = v ∧ AtW w0 A' w' := by
  obtain ⟨F, ha, h2, h3⟩ := h
  refine (hc F ha).mono ?_
  rintro e w' ⟨rfl, hs⟩
  exact ⟨rfl, AtW.stp h2 h3 hs⟩
/-- A call on the first and the third of three. -/
theorem lift_swap {P : Program} {f : FuncId} {args : Array Value} {A A' B C C' : HP} {v : Ending} (gb : Good B) (h : Lifts P f args (Star A C) (Star A' C') v) : Lifts P f args (Star (Star A B) C) (Star (Star A' B) C') v := by
  intro w F hO
  refine ((h.left gb) w F hO.swap).mono ?_
  rintro e w' ⟨rfl, hs⟩
  exact ⟨rfl, hs.imp fun _ h => h.swap⟩
theorem look_swap {P : Program} {f : FuncId} {args : Array Value} {A B C : HP} {v : Ending} (h : Looks P f args (Star A C) v) : Looks P f args (Star (Star A B) C) v := fun w F hO => (h.left) w F hO.swap
theorem grow_new (w : World) (n : Nat) : AtW w (GrowH w.heap.size n ⟨[], 0, 0⟩) (w.alloc (.cells #[.int .i64 n, .slice none 0 0, .int .i64 0, .int .i64 0] 35)) :=
  ⟨fun b => b = w.heap.size, ⟨.slice none 0 0, [], rfl, heapAlloc _ _, World.ownsRow_nil _ _ _ _, by simp [Value.ownBlock], rfl, fun b h => by simp [Value.ownBlock] at h, fun q h => by simp at h, fun b h => by rw [h]; simp⟩, (Below.refl _ _).alloc (Nat.le_refl _) _, fun b h => by rw [h]; exact Nat.le_refl _⟩
/-- What a ring is that grew. -/
structure RingOk (n cells : Nat) (g : GS) (l : List Acc) (k : Nat) : Prop where
  inv : GInv n cells g l
  len : l.length ≤ 20 * k
  many : g.es.length ≤ k
theorem RingOk.act {n cells : Nat} {g : GS} {l : List Acc} {k : Nat} (h : RingOk n cells g l k) (hs : 1 ≤ n) (hc : 1 ≤ cells) (hk : k < 100000000) (kind : Int) (q : Nat → Nat → Int) (m : Nat) (hq : ∀ j k, (Lit.int .i64 (q j k)).wf = true) :
    RingOk n cells (actG n cells g l kind (fitZ cells q m)).1 (actG n cells g l kind (fitZ cells q m)).2 (k + 1) ∧ Ext g.es (actG n cells g l kind (fitZ cells q m)).1.es ∧ g.done ≤ (actG n cells g l kind (fitZ cells q m)).1.done ∧ g.laid ≤ (actG n cells g l kind (fitZ cells q m)).1.laid := by
  have hm := h.many
  have hl := h.len
  have hw : ∀ r ∈ fitZ (cells : Int) q m, (0 ≤ r.1 ∧ r.1 < (cells : Int)) ∧ I64 r.2 := by
    intro r hr
    unfold fitZ at hr
    rw [List.mem_map] at hr
    obtain ⟨i, _, rfl⟩ := hr
    exact ⟨pickZ_range _ _ (by omega), I64.of_wf (hq i 1)⟩
  have hg := actG_inv h.inv hs kind (fitZ cells q m) hw (by omega)
  exact ⟨⟨hg.inv, by have := hg.len; omega, by have := hg.one; omega⟩, hg.ext, hg.done, hg.laid⟩
theorem RingOk.ld {n cells : Nat} {g : GS} {l : List Acc} {k : Nat} (h : RingOk n cells g l k) (th a b c v : Int) : RingOk n cells g (l ++ [ldAcc th a b c v]) (k + 1) :=
  ⟨h.inv.ld _ _ _ _ _, by have := h.len; simp; omega, by have := h.many; omega⟩
theorem RingOk.more {n cells : Nat} {g : GS} {l : List Acc} {k : Nat} (h : RingOk n cells g l k) : RingOk n cells g l (k + 1) :=
  ⟨h.inv, by have := h.len; omega, by have := h.many; omega⟩
theorem RingOk.nil (n cells : Nat) : RingOk n cells ⟨[], 0, 0⟩ [] 0 := ⟨gInv_nil, by simp, by simp⟩
/-- A turn's cells, in whatever world behind. -/
theorem turn_at {w wr : World} {a : Option Addr} {len : Nat} {ks : Nat → Int} {sl : Nat → Option Addr × Nat × Nat} {q : Nat → Nat → Nat → Int} (h : Turns w a len ks sl q) (hb : Below w.heap.size w wr) {i : Nat} (hi : i < len) :
    ∃ b off, a = some ⟨b, off, none⟩ ∧ wr.cell? ⟨b, off + i * 2, none⟩ = some (.int .i64 (ks i)) ∧ wr.cell? ⟨b, off + i * 2 + 1, none⟩ = some (.slice (sl i).1 (sl i).2.1 (sl i).2.2) ∧ Grid wr (sl i).1 (sl i).2.1 2 (q i) ∧ (sl i).2.1 ≤ 9223372036854775807 ∧ I64 (ks i) ∧ ∀ j k, (Lit.int .i64 (q i j k)).wf = true := by
  rcases h with h | ⟨b, off, e, hlt, hc⟩
  · omega
  · obtain ⟨k1, k2, k3, k4, k5, k6, k7⟩ := hc i hi
    unfold maxLen at k5
    exact ⟨b, off, e, (hb.cell (p := ⟨b, off + i * 2, none⟩) hlt).trans k1, (hb.cell (p := ⟨b, off + i * 2 + 1, none⟩) hlt).trans k2, k3.below hb, by omega, I64.of_wf k6, k7⟩
/-- An act on a ring and its memory, beside whatever. -/
theorem act_at {p x n cells k : Nat} {l : List Acc} {g : GS} {w0 wr : World} (h : AtW w0 (MG p x n cells l g) wr) (ho : RingOk n cells g l k) (hs1 : 1 ≤ n) (hs2 : n ≤ 16) (hc1 : 1 ≤ cells) (hc2 : cells ≤ 1000000) (hk : k ≤ 10000000) (kind : Int) (a : Option Addr) (len cap : Nat) (q : Nat → Nat → Int) (hl : len ≤ 9223372036854775807) (hg : Grid wr a len 2 q) :
    Calls Try.prog 9 #[.pointer (some ⟨x, 0, none⟩), .pointer (some ⟨p, 0, none⟩), .int .i64 kind, .slice a len cap] wr fun e w' => e = .returned (.tuple #[]) ∧ AtW w0 (MG p x n cells (actG n cells g l kind (fitZ cells q (min len 4))).2 (actG n cells g l kind (fitZ cells q (min len 4))).1) w' :=
  at_it h fun F hF => act_any p x n cells l g ho.inv hs1 hs2 hc1 hc2 (by have := ho.len; omega) (by have := ho.many; omega) kind a len cap q hl wr F hg hF
theorem act_at2 {p x n cells k : Nat} {l : List Acc} {g : GS} {B : HP} (gb : Good B) {w0 wr : World} (h : AtW w0 (Star (MG p x n cells l g) B) wr) (ho : RingOk n cells g l k) (hs1 : 1 ≤ n) (hs2 : n ≤ 16) (hc1 : 1 ≤ cells) (hc2 : cells ≤ 1000000) (hk : k ≤ 10000000) (kind : Int) (a : Option Addr) (len cap : Nat) (q : Nat → Nat → Int) (hl : len ≤ 9223372036854775807) (hg : Grid wr a len 2 q) :
    Calls Try.prog 9 #[.pointer (some ⟨x, 0, none⟩), .pointer (some ⟨p, 0, none⟩), .int .i64 kind, .slice a len cap] wr fun e w' => e = .returned (.tuple #[]) ∧ AtW w0 (Star (MG p x n cells (actG n cells g l kind (fitZ cells q (min len 4))).2 (actG n cells g l kind (fitZ cells q (min len 4))).1) B) w' :=
  at_left gb h fun F hF => act_any p x n cells l g ho.inv hs1 hs2 hc1 hc2 (by have := ho.len; omega) (by have := ho.many; omega) kind a len cap q hl wr F hg hF
theorem act_at3 {p x n cells k : Nat} {l : List Acc} {g : GS} {B C : HP} (gb : Good B) (gc : Good C) {w0 wr : World} (h : AtW w0 (Star (Star (MG p x n cells l g) B) C) wr) (ho : RingOk n cells g l k) (hs1 : 1 ≤ n) (hs2 : n ≤ 16) (hc1 : 1 ≤ cells) (hc2 : cells ≤ 1000000) (hk : k ≤ 10000000) (kind : Int) (a : Option Addr) (len cap : Nat) (q : Nat → Nat → Int) (hl : len ≤ 9223372036854775807) (hg : Grid wr a len 2 q) :
    Calls Try.prog 9 #[.pointer (some ⟨x, 0, none⟩), .pointer (some ⟨p, 0, none⟩), .int .i64 kind, .slice a len cap] wr fun e w' => e = .returned (.tuple #[]) ∧ AtW w0 (Star (Star (MG p x n cells (actG n cells g l kind (fitZ cells q (min len 4))).2 (actG n cells g l kind (fitZ cells q (min len 4))).1) B) C) w' := by
  refine at_left gc h fun F hF => ?_
  obtain ⟨FA, FB, ha, hb, hF', hd⟩ := hF
  refine (act_any p x n cells l g ho.inv hs1 hs2 hc1 hc2 (by have := ho.len; omega) (by have := ho.many; omega) kind a len cap q hl wr FA hg ha).mono ?_
  rintro e w' ⟨rfl, hs⟩
  exact ⟨rfl, hs.left gb hb hF' hd⟩
end Go.Proofs.Ytojkeahffabifaa
