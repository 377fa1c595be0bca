/- Layer 11: the program's New. -/
import Derived.Test.YtlmnljijpgpmiaaC11e
import Derived.Test.YtlmnljijpgpmiaaC2h
import Derived.Deep.AppendLies
import Derived.Deep.Cut
namespace Go.Proofs.Ytlmnljijpgpmiaa
open Go.RowKit
set_option linter.unusedVariables false
/-- The greatest cell. -/
def mostZ (W : List (Int × Int)) : Int := W.foldl (fun m x => max m x.1) 0
noncomputable def mkD (n : Nat) (st : Int) (mu : Bool) (lv : Value) (W : List (Int × Int)) : BD := ⟨n, st, mostZ W, mu, lv, ofS (W.map Prod.fst), W⟩
/-- A list that comes in. -/
def ArgW (w : World) (v : Value) (W : List (Int × Int)) : Prop := ∃ a c, v = .slice a W.length c ∧ (W ≠ [] → ∃ g, a = some ⟨g, 0, none⟩ ∧ g < w.heap.size ∧ ∀ k, k < W.length * 2 → w.cell? ⟨g, k, none⟩ = (wcells W)[k]?)
theorem ArgW.calm {w w' : World} {v : Value} {W : List (Int × Int)} (h : ArgW w v W) (hb : Below w.heap.size w w') : ArgW w' v W := by
  obtain ⟨a, c, hv, h⟩ := h
  refine ⟨a, c, hv, fun hW => ?_⟩
  obtain ⟨g, rfl, hg, hc⟩ := h hW
  exact ⟨g, rfl, Nat.lt_of_lt_of_le hg hb.size, fun k hk => (hb.cell (p := ⟨g, k, none⟩) hg).trans (hc k hk)⟩
theorem RowH.arg {w : World} {v : Value} {W : List (Int × Int)} {F : Nat → Prop} (h : RowH v W w F) : ArgW w v W := by
  obtain ⟨a, c, hv⟩ := ownAt_form h.1
  refine ⟨a, c, hv, fun hW => ?_⟩
  obtain ⟨g, c2, hv2, _, _, hc, _, _⟩ := own_parts h.1 (List.length_pos_iff.2 hW)
  have e : some (⟨g, 0, none⟩ : Addr) = a := by rw [hv] at hv2; simp at hv2; exact hv2.1.symm
  exact ⟨g, e.symm, (h.1.lt g (by rw [hv2]; rfl)).2, fun k hk => hc k (by omega)⟩
/-- May it be made of this? -/
def wOk (W : List (Int × Int)) : Prop := ∀ y ∈ W, 0 ≤ y.1 ∧ y.1 < 1024
instance (W : List (Int × Int)) : Decidable (wOk W) := by unfold wOk; infer_instance
def BakNew (w : World) (n : Nat) (st : Int) (mu : Bool) (W : List (Int × Int)) (e : Ending) (w' : World) : Prop := ∃ x lv, e = .returned (.tuple #[.pointer (some ⟨x, 0, none⟩), .int .i64 0]) ∧ AtW w (Star (RowH lv W) (BakH x (mkD n st mu lv W) (newK n mu st W))) w'
theorem AtW.mv {w0 wr w' : World} {O O' : HP} (h : AtW w0 O wr) (k : Moves O O' wr w') : AtW w0 O' w' := by
  obtain ⟨F, h1, h2, h3⟩ := h
  exact AtW.stp h2 h3 (k F h1)
/-- The machine, half made. -/
noncomputable def dK (n : Nat) (st : Int) (mu : Bool) (lv : Value) (W : List (Int × Int)) (k : Nat) : BD := ⟨n, st, mostZ (W.take k), mu, lv, ofS ((W.take k).map Prod.fst), W⟩
theorem ofS_snoc11 (zs : List Int) (z : Int) : ofS (zs ++ [z]) = withS (ofS zs) z := by unfold ofS; rw [List.foldl_append]; rfl
theorem take_next {W : List (Int × Int)} {k : Nat} {y : Int × Int} (h : W[k]? = some y) : W.take (k + 1) = W.take k ++ [y] := by
  rw [List.take_add_one, h]; rfl
theorem dK_next {n : Nat} {st : Int} {mu : Bool} {lv : Value} {W : List (Int × Int)} {k : Nat} {y : Int × Int} (h : W[k]? = some y) : dK n st mu lv W (k + 1) = ⟨n, st, max (mostZ (W.take k)) y.1, mu, lv, withS (ofS ((W.take k).map Prod.fst)) y.1, W⟩ := by
  unfold dK
  rw [take_next h, List.map_append, List.map_cons, List.map_nil, ofS_snoc11]
  unfold mostZ
  rw [List.foldl_append]; rfl
def sig8b (w : World) (b : Nat) (s : Nat → Int) : World := (((((((w.setCell ⟨b, 4, none⟩ (.int .u64 (s 0))).setCell ⟨b, 5, none⟩ (.int .u64 (s 1))).setCell ⟨b, 6, none⟩ (.int .u64 (s 2))).setCell ⟨b, 7, none⟩ (.int .u64 (s 3))).setCell ⟨b, 8, none⟩ (.int .u64 (s 4))).setCell ⟨b, 9, none⟩ (.int .u64 (s 5))).setCell ⟨b, 10, none⟩ (.int .u64 (s 6))).setCell ⟨b, 11, none⟩ (.int .u64 (s 7))
theorem sig8b_moves {w : World} (x : Nat) (d : BD) (b : BK) (s : Nat → Int) : Moves (BakH x d b) (BakH x { d with s := s } b) w (sig8b w x s) := by
  rintro F ⟨h, hF⟩
  have hx : F x := (hF x).2 rfl
  refine ⟨F, ⟨(heapSet_eq _ _ _ _ _ _ _ (heapSet_eq _ _ _ _ _ _ _ (heapSet_eq _ _ _ _ _ _ _ (heapSet_eq _ _ _ _ _ _ _ (heapSet_eq _ _ _ _ _ _ _ (heapSet_eq _ _ _ _ _ _ _ (heapSet_eq _ _ _ _ _ _ _ (heapSet_eq _ _ _ _ _ _ _ h)))))))).trans (by simp [bakC]), hF⟩, ?_, fun _ h => .inl h⟩
  exact (((((((((Chg.refl F w).set _ _ (.inr hx)).set _ _ (.inr hx)).set _ _ (.inr hx)).set _ _ (.inr hx)).set _ _ (.inr hx)).set _ _ (.inr hx)).set _ _ (.inr hx)).set _ _ (.inr hx))
theorem sig8b_block (w : World) (b : Nat) (s : Nat → Int) (j : Nat) (h : j ≠ b) : (sig8b w b s).heap[j]? = w.heap[j]? := by
  have hS : Chg (fun i => i = b) w (sig8b w b s) := (((((((((Chg.refl (fun i => i = b) w).set _ _ (.inr rfl)).set _ _ (.inr rfl)).set _ _ (.inr rfl)).set _ _ (.inr rfl)).set _ _ (.inr rfl)).set _ _ (.inr rfl)).set _ _ (.inr rfl)).set _ _ (.inr rfl))
  rcases Nat.lt_or_ge j w.heap.size with hlt | hge
  · exact hS.block j hlt h
  · rw [Array.getElem?_eq_none hge, Array.getElem?_eq_none (by unfold sig8b; simp only [World.size_setCell]; exact hge)]
theorem infoWr : (Try.prog.info? 29).map (fun i => (i.zero, i.size, i.bytes)) = some (some (.agg #[.int .i64 0, .int .i64 0]), 2, 16) := by kernel_rfl
theorem wcells_one (W : List (Int × Int)) : ∀ u ∈ wcells W, u.oneCell' = true := by
  intro u hu
  obtain ⟨x, _, hx⟩ := List.mem_flatMap.1 hu
  simp at hx
  rcases hx with rfl | rfl <;> rfl
theorem cfg_at11 {w : World} {p : Nat} {a b c d e f g : Value} {T : TypeId} (h : w.heap[p]? = some (.cells #[a, b, c, d, e, f, g] T)) :
    w.cell? ⟨p, 1, none⟩ = some b ∧ w.cell? ⟨p, 4, none⟩ = some e ∧ ∀ o, w.frozen? ⟨p, o, none⟩ = false :=
  ⟨by simp [World.cell?, h], by simp [World.cell?, h], fun o => by simp [World.frozen?, h]⟩
/-- What New has answered. -/
def NewPost (w : World) (n : Nat) (st : Int) (mu : Bool) (W : List (Int × Int)) (e : Ending) (w' : World) : Prop := (wOk W ∧ BakNew w n st mu W e w') ∨ (¬ wOk W ∧ e = .returned (.tuple #[.pointer none, .int .i64 1]) ∧ Below w.heap.size w w')
/-- The machine is there, not yet told what it writes. -/
def Half (w : World) (n : Nat) (st : Int) (mu : Bool) (W : List (Int × Int)) (x : Nat) (lv : Value) (k : Nat) (wr : World) : Prop := AtW w (Star (RowH lv W) (BakH x (dK n st mu lv W k) ⟨W.length, 0, 0, 0, false, 0⟩)) wr
theorem half_made {w w1 : World} {n : Nat} {st : Int} {mu : Bool} {W : List (Int × Int)} {lv : Value} (hb : Below w.heap.size w w1) (ho : w1.ownsRow w.heap.size 29 2 lv W.length (wcells W)) : Half w n st mu W w1.heap.size lv 0 (w1.alloc (.cells (bakC w1.heap.size (dK n st mu lv W 0) ⟨W.length, 0, 0, 0, false, 0⟩) 82)) := by
  have h1 : AtW w (RowH lv W) w1 := ⟨fun b => lv.ownBlock = some b, ⟨own_base ho (fun _ _ => Nat.zero_le _), fun _ => Iff.rfl⟩, hb, fun b h => (ho.lt b h).1⟩
  exact h1.box (RowH.good _ _) _ _
theorem Half.drew {w : World} {n : Nat} {st : Int} {mu : Bool} {W : List (Int × Int)} {x : Nat} {lv : Value} {k : Nat} {wr : World} (h : Half w n st mu W x lv k wr) : Half w n st mu W x lv k wr.drew := AtW.calm ((RowH.good _ _).star (BakH.good _ _ _)) h (Below.refl _ _).drew
set_option maxRecDepth 100000 in
set_option maxHeartbeats 4000000 in
theorem bakNew_any (c0 : Int) (n : Nat) (c2 c3 : Int) (mu : Bool) (c5 : Int) (c6 : Value) (st : Int) (v : Value) (W : List (Int × Int)) (w : World) (hA : ArgW w v W) (h1 : 1 ≤ n) (h2 : n ≤ 16) (h3 : 1 ≤ st) (h4 : st ≤ 1099511627776) (h5 : W.length ≤ 24) :
    Calls Try.prog 8 #[.agg #[.int .i64 c0, .int .i64 n, .int .i64 c2, .int .i64 c3, .bool mu, .int .i64 c5, c6], .int .i64 st, v] w (NewPost w n st mu W) := by
  obtain ⟨a, c, rfl, hA⟩ := hA
  obtain ⟨i0, hi, hI0, hI1, hI2⟩ := info_parts infoWr
  have h1i : (1 : Int) ≤ n := by omega
  have h2i : (n : Int) ≤ 16 := by omega
  have h5i : (W.length : Int) ≤ 24 := by omega
  have HA := Lib.hid hA
  obtain ⟨N, hN⟩ : ∃ N, W.length = N := ⟨_, rfl⟩
  have HN := Lib.hid hN
  rw [hN] at h5i ⊢
  clear hA h1 h2 h5 hN
  go_enter Try.func8, Try.ntmps8
  go_wp2_with fail
  obtain ⟨cfg, hcfg⟩ : ∃ cfg : Obj, cfg = .cells #[.int .i64 c0, .int .i64 n, .int .i64 c2, .int .i64 c3, .bool mu, .int .i64 c5, c6] 36 := ⟨_, rfl⟩
  rw [← hcfg]
  have hwb : (w.alloc cfg).heap[w.heap.size]? = some (.cells #[.int .i64 c0, .int .i64 n, .int .i64 c2, .int .i64 c3, .bool mu, .int .i64 c5, c6] 36) := by rw [hcfg]; exact heapAlloc _ _
  have HB0 : Hid (Below w.heap.size w (w.alloc cfg)) := (Below.refl _ _).alloc (Nat.le_refl _) _
  have hsz : w.heap.size < (w.alloc cfg).heap.size := by simp
  generalize w.alloc cfg = wc at *
  have HWB := Lib.hid hwb
  clear hwb hcfg
  go_cut [8] from 32 (fun sl wx => ∃ x lv, sl = .pointer (some ⟨x, 0, none⟩) ∧ Hid (Half w n st mu W x lv 0 wx ∧ wx.heap[w.heap.size]? = some (.cells #[.int .i64 c0, .int .i64 n, .int .i64 c2, .int .i64 c3, .bool mu, .int .i64 c5, c6] 36) ∧ x ≠ w.heap.size))
  case first =>
    obtain ⟨k1, k4, kz⟩ := cfg_at11 HWB.out
    by_cases hW : W = []
    · obtain rfl : N = 0 := by rw [← HN.out, hW]; rfl
      cases a
      all_goals
        go_region
        go_wp2_with fail
        go_meet
        case rel =>
          have k := half_made (n := n) (st := st) (mu := mu) (W := W) (lv := .slice none 0 0) HB0.out (by rw [hW]; exact World.ownsRow_nil _ _ _ _)
          have e : bakC wc.heap.size (dK n st mu (.slice none 0 0) W 0) ⟨W.length, 0, 0, 0, false, 0⟩ = #[.int .i64 n, .bool mu, .int .i64 st, .slice none 0 0, .int .u64 0, .int .u64 0, .int .u64 0, .int .u64 0, .int .u64 0, .int .u64 0, .int .u64 0, .int .u64 0, .int .i64 0, .int .i64 0, .int .i64 0, .int .i64 0, .int .i64 0, .bool false, .nilFunc] := by rw [hW]; rfl
          rw [e] at k
          exact ⟨_, _, rfl, k.drew, (by show (wc.alloc _).heap[_]? = _; exact heapAlloc_old HWB.out _), by omega⟩
    · obtain ⟨g, rfl, hg, hcell⟩ := HA.out hW
      have HC := Lib.hid hcell
      have h0N : 0 < N := by rw [← HN.out]; exact List.length_pos_iff.2 hW
      have hgl : g < wc.heap.size := by omega
      have HCC : Hid (∀ k, k < W.length * 2 → wc.cell? ⟨g, k, none⟩ = (wcells W)[k]?) := fun k hk => (HB0.out.cell (p := ⟨g, k, none⟩) hg).trans (HC.out k hk)
      have HL8 : Hid ((wcells W).length = N * 2) := by show _ = _; rw [wcells_len, HN.out]
      have hlies : Hid (∀ j u, (wcells W)[j]? = some u → wc.drew.cell? ((⟨g, 0, none⟩ : Addr).add j) = some u) := by
        intro j u hj
        have hjl := (List.getElem?_eq_some_iff.1 hj).1
        rw [HL8.out] at hjl
        have h := HCC.out j (by rw [HN.out]; exact hjl)
        have e : (⟨g, 0, none⟩ : Addr).add j = ⟨g, j, none⟩ := by simp [Addr.add]; omega
        rw [e]
        show wc.cell? _ = _
        rw [h]; exact hj
      clear hcell hW
      go_region_law ((refine step_append_lies _ (by rfl) (.const (.slice none 0 0)) (.tmp 37) 22 (by rfl) w.heap.size 29 i0 (.agg #[.int .i64 0, .int .i64 0]) 2 16 Try.underlying22 hi hI0 hI1 hI2 (by rfl) (by decide) (.slice none 0 0) 0 [] (by rfl) (World.ownsRow_nil _ _ _ _) ⟨g, 0, none⟩ N c (wcells W) (by rfl) (HL8.out) (hlies.out) (wcells_one W) h0N (by unfold maxLen; omega) (by omega) (by show w.heap.size ≤ wc.drew.heap.size; simp; omega) _ rfl ?_; intro g2 c2' w2 hown2 hgrow hat hlt; have HP2 := Lib.hid ((hgrow.block w.heap.size (by show w.heap.size < wc.drew.heap.size; simp; exact hsz) (fun e => by simp [Value.ownBlock] at e)).trans HWB.out); obtain ⟨j1, j4, jz⟩ := cfg_at11 HP2.out))
      all_goals
        rw [Nat.zero_add, List.nil_append] at hown2
        have HB2 : Hid (Below w.heap.size w w2) := (HB0.out.drew).grown hgrow (by simp; omega) (fun j hj => by simp [Value.ownBlock] at hj)
        have HO2 := Lib.hid hown2
        have e : bakC w2.heap.size (dK n st mu (.slice (some ⟨g2, 0, none⟩) N c2') W 0) ⟨W.length, 0, 0, 0, false, 0⟩ = #[.int .i64 n, .bool mu, .int .i64 st, .slice (some ⟨g2, 0, none⟩) N c2', .int .u64 0, .int .u64 0, .int .u64 0, .int .u64 0, .int .u64 0, .int .u64 0, .int .u64 0, .int .u64 0, .int .i64 0, .int .i64 N, .int .i64 0, .int .i64 0, .int .i64 0, .bool false, .nilFunc] := by rw [HN.out]; rfl
        have HE := Lib.hid e
        have hz2 := HP2.out
        clear hown2 hgrow hat e
        go_wp2_with fail
        go_meet
        case rel =>
          have k := half_made (n := n) (st := st) (mu := mu) (W := W) (lv := .slice (some ⟨g2, 0, none⟩) N c2') HB2.out (by rw [HN.out]; exact HO2.out)
          rw [HE.out] at k
          exact ⟨_, _, rfl, k, (heapAlloc_old HP2.out _), by have := heap_lt HP2.out; omega⟩
  obtain ⟨x, lv, rfl, HX⟩ := hcut
  clear HB0 hsz HWB
  go_wp2_with fail
  go_loopw [45] (fun i wr => ∃ k : Nat, k ≤ N ∧ i = .int .i64 k ∧ Hid (wOk (W.take k) ∧ Half w n st mu W x lv k wr ∧ wr.heap[w.heap.size]? = some (.cells #[.int .i64 c0, .int .i64 n, .int .i64 c2, .int .i64 c3, .bool mu, .int .i64 c5, c6] 36))) (fun i _ => N - (intOf i).toNat)
  case atStart => exact ⟨0, by omega, rfl, (fun y h => by simp at h), HX.out.1, HX.out.2.1⟩
  case round =>
    obtain ⟨k, hk, rfl, HR⟩ := hrel
    obtain ⟨hok, hH, hcfg⟩ := HR.out
    obtain ⟨k1, k4, kz⟩ := cfg_at11 hcfg
    have hne : x ≠ w.heap.size := HX.out.2.2
    have hne2 : w.heap.size ≠ x := fun e => hne e.symm
    obtain ⟨c0', c2', c3', rd, c12, c13, c14, c15, c16, c17, c18, fz⟩ := bak_cells hH.has.right.blk
    by_cases hlt : k < N
    · obtain ⟨⟨y1, y2⟩, hy⟩ : ∃ y, W[k]? = some y := ⟨_, List.getElem?_eq_getElem (by rw [HN.out]; exact hlt)⟩
      obtain ⟨g, rfl, hg, hcell⟩ := HA.out (fun e => by rw [e] at hy; simp at hy)
      obtain ⟨q0', q1'⟩ := wcells_at hy
      have hkl : (k : Int) < N := by omega
      have q0 : wr.cell? ⟨g, k * 2, none⟩ = some (.int .i64 y1) := (hH.below.cell (p := ⟨g, k * 2, none⟩) hg).trans ((hcell _ (by rw [HN.out]; omega)).trans q0')
      have q1 : wr.cell? ⟨g, k * 2 + 1, none⟩ = some (.int .i64 y2) := (hH.below.cell (p := ⟨g, k * 2 + 1, none⟩) hg).trans ((hcell _ (by rw [HN.out]; omega)).trans q1')
      have hgl : g < wr.heap.size := Nat.lt_of_lt_of_le hg hH.below.size
      have hxl : x < wr.heap.size := heap_lt hH.has.right.blk
      have hcl : w.heap.size < wr.heap.size := heap_lt hcfg
      have HBW : Hid (∀ o, Below w.heap.size w (wr.alloc o)) := fun o => hH.below.alloc hH.below.size _
      have HBAD : Hid (¬ (0 ≤ y1 ∧ y1 < 1024) → ¬ wOk W) := fun hb h => hb (h (y1, y2) (List.mem_of_getElem? hy))
      have HH := Lib.hid hH
      have HCF := Lib.hid hcfg
      have HOK := Lib.hid hok
      have HY := Lib.hid hy
      clear hH hcfg rd hcell q0' q1' HR HX hok hy
      by_cases hy0 : y1 < 0
      · have d0 : decide (y1 < 0) = true := by simpa using hy0
        have hb := Lib.hid (HBAD.out (by omega))
        go_wp2_with fail
        go_ret2
        exact Or.inr ⟨hb.out, rfl, HBW.out _⟩
      · by_cases hy1 : 1024 ≤ y1
        · have d1 : decide (1024 ≤ y1) = true := by simpa using hy1
          have hb := Lib.hid (HBAD.out (by omega))
          go_wp2_with fail
          go_ret2
          exact Or.inr ⟨hb.out, rfl, HBW.out _⟩
        · clear HBAD
          have HOK2 : Hid (wOk (W.take (k + 1))) := by
            intro y hy
            rw [take_next HY.out] at hy
            rcases List.mem_append.1 hy with h | h
            · exact HOK.out y h
            · simp at h
              subst h
              exact ⟨by show 0 ≤ y1; omega, by show y1 < 1024; omega⟩
          go_wp2_with fail
          have HH1 := Lib.hid (AtW.calm ((RowH.good _ _).star (BakH.good _ _ _)) HH.out ((Below.refl wr.heap.size wr).alloc (Nat.le_refl _) (.cells #[.int .i64 y1, .int .i64 y2] 29)))
          have HCF1 := Lib.hid (heapAlloc_old HCF.out (.cells #[.int .i64 y1, .int .i64 y2] 29))
          have hbx := heapAlloc wr (.cells #[.int .i64 y1, .int .i64 y2] 29)
          have hwl : wr.heap.size < (wr.alloc (.cells #[.int .i64 y1, .int .i64 y2] 29)).heap.size := by simp
          have hxw : x ≠ wr.heap.size := by omega
          have hwx : wr.heap.size ≠ x := by omega
          clear c0' c2' c3' c12 c13 c14 c15 c16 c17 c18 fz k1 k4 kz q0 q1 HH HCF HBW
          generalize wr.alloc (.cells #[.int .i64 y1, .int .i64 y2] 29) = wb at *
          obtain ⟨b0, b1, bz⟩ := two_at11 hbx
          have hR := bak_cells HH1.out.has.right.blk
          have fz := hR.fz
          have r0 : wb.cell? ⟨x, 4, none⟩ = some (.int .u64 ((dK n st mu lv W k).s 0)) := hR.rd 0 (by decide)
          have r1 : wb.cell? ⟨x, 5, none⟩ = some (.int .u64 ((dK n st mu lv W k).s 1)) := hR.rd 1 (by decide)
          have r2 : wb.cell? ⟨x, 6, none⟩ = some (.int .u64 ((dK n st mu lv W k).s 2)) := hR.rd 2 (by decide)
          have r3 : wb.cell? ⟨x, 7, none⟩ = some (.int .u64 ((dK n st mu lv W k).s 3)) := hR.rd 3 (by decide)
          have r4 : wb.cell? ⟨x, 8, none⟩ = some (.int .u64 ((dK n st mu lv W k).s 4)) := hR.rd 4 (by decide)
          have r5 : wb.cell? ⟨x, 9, none⟩ = some (.int .u64 ((dK n st mu lv W k).s 5)) := hR.rd 5 (by decide)
          have r6 : wb.cell? ⟨x, 10, none⟩ = some (.int .u64 ((dK n st mu lv W k).s 6)) := hR.rd 6 (by decide)
          have r7 : wb.cell? ⟨x, 11, none⟩ = some (.int .u64 ((dK n st mu lv W k).s 7)) := hR.rd 7 (by decide)
          have hsw : Wds (dK n st mu lv W k).s := ofS_wds _
          have HD := Lib.hid (dK_next (n := n) (st := st) (mu := mu) (lv := lv) HY.out)
          have HD0 : Hid (dK n st mu lv W k = ⟨n, st, mostZ (W.take k), mu, lv, (dK n st mu lv W k).s, W⟩) := rfl
          have HD1 : Hid (ofS ((W.take k).map Prod.fst) = (dK n st mu lv W k).s) := rfl
          rw [HD1.out] at HD
          have HBX := Lib.hid hbx
          clear hR hbx
          generalize (dK n st mu lv W k).s = s at *
          have HWI := Lib.hid (fun w => with_any s hsw y1 w)
          generalize hs' : withS s y1 = s' at *
          have hxl2 : x < wb.heap.size := by omega
          go_region_law ((go_simp; go_at_call 25; (with_reducible refine (HWI.out _).mono ?_); rintro e w2 ⟨rfl, hb2⟩; have hb3 := Below.trans ((Below.refl wb.heap.size wb).drew) hb2; have HB3 := Lib.hid hb3; have u0 := (hb3.cell (p := ⟨x, 4, none⟩) hxl2).trans r0; have u1 := (hb3.cell (p := ⟨x, 5, none⟩) hxl2).trans r1; have u2 := (hb3.cell (p := ⟨x, 6, none⟩) hxl2).trans r2; have u3 := (hb3.cell (p := ⟨x, 7, none⟩) hxl2).trans r3; have u4 := (hb3.cell (p := ⟨x, 8, none⟩) hxl2).trans r4; have u5 := (hb3.cell (p := ⟨x, 9, none⟩) hxl2).trans r5; have u6 := (hb3.cell (p := ⟨x, 10, none⟩) hxl2).trans r6; have u7 := (hb3.cell (p := ⟨x, 11, none⟩) hxl2).trans r7; have ub := (hb3.cell (p := ⟨wr.heap.size, 0, none⟩) hwl).trans b0; have uz : ∀ o, w2.frozen? ⟨x, o, none⟩ = false := fun o => (hb3.frozen (p := ⟨x, o, none⟩) hxl2).trans (fz o)))
          all_goals
            have hM : AtW w (Star (RowH lv W) (BakH x ⟨n, st, mostZ (W.take k), mu, lv, s', W⟩ ⟨W.length, 0, 0, 0, false, 0⟩)) (sig8b w2 x s') := by
              have h0 := HH1.out
              rw [HD0.out] at h0
              exact AtW.mv (AtW.calm ((RowH.good _ _).star (BakH.good _ _ _)) h0 HB3.out) (Moves.right (RowH.good _ _) (sig8b_moves x _ _ s'))
            have hcf := (sig8b_block w2 x s' w.heap.size hne2).trans ((HB3.out.block _ (heap_lt HCF1.out)).trans HCF1.out)
            have hbb := (sig8b_block w2 x s' wr.heap.size hwx).trans ((HB3.out.block _ (heap_lt HBX.out)).trans HBX.out)
            obtain ⟨w3, hw3⟩ : ∃ w3, w3 = sig8b w2 x s' := ⟨_, rfl⟩
            rw [← hw3] at hM hcf hbb
            unfold sig8b at hw3
            rw [← hw3]
            obtain ⟨v0, v1, vz⟩ := two_at11 hbb
            have hR3 := bak_cells hM.has.right.blk
            have v12 := hR3.c12
            have vfz := hR3.fz
            have HM := Lib.hid hM
            have HCF3 := Lib.hid hcf
            clear hM hR3 hcf hbb hw3 u0 u1 u2 u3 u4 u5 u6 u7 ub uz hb2 hb3 HB3 HWI r0 r1 r2 r3 r4 r5 r6 r7 b0 b1 bz fz
            go_wp2_with fail
            go_region
            go_wp2_with fail
            go_roundw
            case rel =>
              refine ⟨k + 1, by omega, by go_num, HOK2.out, ?_, ?_⟩
              · have hmx : (if mostZ (W.take k) < y1 then y1 else mostZ (W.take k)) = max (mostZ (W.take k)) y1 := by split <;> omega
                rw [hmx]
                unfold Half
                rw [HD.out]
                exact AtW.calm ((RowH.good _ _).star (BakH.good _ _ _)) (AtW.mv HM.out (Moves.right (RowH.good _ _) (BlkH.set (cs := bakC x ⟨n, st, mostZ (W.take k), mu, lv, s', W⟩ ⟨W.length, 0, 0, 0, false, 0⟩) 12 (.int .i64 (max (mostZ (W.take k)) y1))))) (Below.refl _ _).drew
              · exact ((Chg.setCell w3 ⟨x, 12, none⟩ _).block _ (heap_lt HCF3.out) hne2).trans HCF3.out
            case measure => simp [intOf]; omega
    · obtain rfl : k = N := by omega
      have hen := run_mkFunc
      have hst := run_stFunc
      have HWF : Hid (W.take k = W) := by
        show _ = _
        rw [← HN.out]; simp
      have HEND : Hid (∀ kn, kn = knK n mu st → NewPost w n st mu W (.returned (.tuple #[.pointer (some ⟨x, 0, none⟩), .int .i64 0])) ((wr.setCell ⟨x, 17, none⟩ (.bool kn)).setCell ⟨x, 18, none⟩ (nxV x 1))) := by
        rintro kn rfl
        have hH2 := hH
        have e : dK n st mu lv W k = mkD n st mu lv W := by unfold dK mkD; rw [HWF.out]
        unfold Half at hH2
        rw [e] at hH2
        rw [HWF.out] at hok
        exact .inl ⟨hok, x, lv, rfl, AtW.mv (AtW.mv hH2 (Moves.right (RowH.good _ _) (BlkH.set (cs := bakC x (mkD n st mu lv W) ⟨W.length, 0, 0, 0, false, 0⟩) 17 (.bool (knK n mu st))))) (Moves.right (RowH.good _ _) (BlkH.set 18 (nxV x 1)))⟩
      clear rd hok hH hcfg HR HX
      cases mu
      · have HK : Hid (true = knK n false st) := rfl
        go_wp2_with fail
        all_goals
          go_ret2
          exact HEND.out _ HK.out
      · have HK : Hid (((n : Int) == 1 || st == 1) = knK n true st) := by
          show _ = _
          unfold knK
          rw [Bool.eq_iff_iff]
          simp
          omega
        go_wp2_with fail
        all_goals
          go_ret2
          first
          | exact HEND.out _ HK.out
          | (refine HEND.out _ ?_
             rw [← HK.out]
             simp [*])
end Go.Proofs.Ytlmnljijpgpmiaa
