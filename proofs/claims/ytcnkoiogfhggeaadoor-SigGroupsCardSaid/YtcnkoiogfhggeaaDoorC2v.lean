/- Groups of the reference: the same list of lists. -/
import Derived.Test.YtcnkoiogfhggeaaDoorC2u
namespace Go.Proofs.YtcnkoiogfhggeaaDoor
open Go.RowKit
set_option linter.unusedVariables false
theorem rows_at2 {w : World} {gs : List (List Int)} {xs : List Value} {k n c bo : Nat} {g : List Int} {x : Value} (h : RowsAt w (.slice (some ⟨bo, 0, none⟩) n c) gs xs) (hk : gs[k]? = some g) (hx : xs[k]? = some x) :
    w.cell? ⟨bo, k, none⟩ = some x ∧ w.frozen? ⟨bo, k, none⟩ = false ∧ w.ownsRow 0 3 1 x g.length (intV g) := by
  obtain ⟨b, c', y, hv, h1, h2, h3, h4⟩ := rows_at h hk
  obtain rfl : x = y := Option.some.inj (hx.symm.trans h3)
  simp only [Value.slice.injEq, Option.some.injEq, Addr.mk.injEq] at hv
  obtain ⟨⟨rfl, _⟩, _⟩ := hv
  exact ⟨h1, h2, h4⟩
/-- A number is appended to a list of numbers. -/
theorem wpL_int1 {w : World} {ops : Array Oper} {rest : List Oper} {o : Oper} {a : Act} {Q : Exit → Act → World → Prop} (hgd : o.guard = none) (s x : Operand)
    (ho : o.op = .call { callee := .builtin .append, args := #[s, x], argTypes := #[22, 22] }) {v : Value} {z : Int} {b : Nat} {g : List Int} (hs : a.eval s = v) (hown : w.ownsRow 0 3 1 v g.length (intV g))
    (hx : a.eval x = .slice (some ⟨b, 0, none⟩) 1 1) (hc : w.cell? ⟨b, 0, none⟩ = some (.int .i64 z)) (hn : g.length ≤ 2199023255552)
    (h : ∀ xa xc w', w'.ownsRow 0 3 1 (.slice xa (g.length + 1) xc) (g ++ [z]).length (intV (g ++ [z])) → w.grownBy w' v.ownBlock → ((Value.slice xa (g.length + 1) xc).ownBlock = v.ownBlock ∨ (Value.slice xa (g.length + 1) xc).ownBlock = some w.heap.size) → wpList Tryd.prog ops Q rest (a.put o.dst (.slice xa (g.length + 1) xc)) w') : wpList Tryd.prog ops Q (o :: rest) a w := by
  obtain ⟨i0, hi, hz0, hz1, hz2⟩ := info_parts infoInt
  refine wpList_append_own_at w hgd s x _ ho 0 3 i0 (.int .i64 0) 1 8 Tryd.underlying22 hi hz0 hz1 hz2 rfl (by decide) v g.length (intV g) hs hown ⟨b, 0, none⟩ 1 1 [.int .i64 z] hx rfl (fun j y hj => ?_) (fun y hy => ?_) (by unfold maxLen; omega) (by omega) (Nat.zero_le _) (fun v' w' k1 k2 _ k4 => ?_)
  · match j, hj with
    | 0, hj =>
      simp at hj
      subst hj
      simpa [Addr.add] using hc
  · simp at hy
    subst hy
    rfl
  · obtain ⟨xa, xc, rfl⟩ := ownAt_form k1
    exact h xa xc w' (by simpa [intV] using k1) k2 k4
theorem own_one (w : World) (z : Int) : (w.alloc (.cells #[.int .i64 z] 3)).ownsRow 0 3 1 (.slice (some ⟨w.heap.size, 0, none⟩) 1 1) [z].length (intV [z]) :=
  ⟨rfl, .inr ⟨w.heap.size, 1, #[.int .i64 z], rfl, Nat.zero_le _, heapAlloc _ _, Nat.le_refl _, by unfold maxLen; omega, rfl, rfl⟩⟩
/-- What the loop over the groups keeps: fd tells whether the place k was put in. -/
def InR (w : World) (q : Nat → Nat → Int) (k L : Nat) (o : Value) (j : Nat) (fd : Bool) (wr : World) : Prop :=
  AtW w (RowsH o (grpZ q (if fd then k + 1 else k))) wr ∧ (groupsG (sameQ q) (if fd then k + 1 else k)).length = L ∧ (fd = false → ∀ (m : Nat) (g : List Nat), m < j → (groupsG (sameQ q) k)[m]? = some g → sameQ q (g.headD 0) k = false)
def gZ (g : List Nat) : List Int := g.map fun (i : Nat) => (i : Int)
theorem gZ_len (g : List Nat) : (gZ g).length = g.length := by simp [gZ]
/-- The group at j is looked at. -/
structure InL (w : World) (q : Nat → Nat → Int) (k L n bo co : Nat) (j : Nat) (wr : World) (g : List Nat) (h bx cx : Nat) (xs : List Value) (F : Nat → Prop) : Prop where
  get : (groupsG (sameQ q) n)[j]? = some g
  head : g.headD 0 = h
  hk : h ≤ k
  len : 0 < (gZ g).length ∧ (gZ g).length ≤ k + 1
  row : RowsAt wr (.slice (some ⟨bo, 0, none⟩) L co) (grpZ q n) xs
  fs : ∀ b, F b ↔ blkR (.slice (some ⟨bo, 0, none⟩) L co) xs b
  below : Below w.heap.size w wr
  new : ∀ b, F b → w.heap.size ≤ b
  el : xs[j]? = some (.slice (some ⟨bx, 0, none⟩) (gZ g).length cx)
  cx0 : wr.cell? ⟨bo, j, none⟩ = some (.slice (some ⟨bx, 0, none⟩) (gZ g).length cx)
  fz : wr.frozen? ⟨bo, j, none⟩ = false
  first : wr.cell? ⟨bx, 0, none⟩ = some (.int .i64 h)
  own : wr.ownsRow 0 3 1 (.slice (some ⟨bx, 0, none⟩) (gZ g).length cx) (gZ g).length (intV (gZ g))
theorem InL.calm {w wr w' : World} {q : Nat → Nat → Int} {k L n bo co j h bx cx : Nat} {g : List Nat} {xs : List Value} {F : Nat → Prop} (H : InL w q k L n bo co j wr g h bx cx xs F) (hb : Below wr.heap.size wr w') : InL w q k L n bo co j w' g h bx cx xs F := by
  have hr := H.row.chg (Chg.calm (fun _ => False) hb) (fun _ _ h => h)
  obtain ⟨h1, h2, h3⟩ := rows_at2 hr (grpZ_get H.get) H.el
  refine ⟨H.get, H.head, H.hk, H.len, hr, H.fs, H.below.trans (hb.mono H.below.size), H.new, H.el, h1, h2, ?_, h3⟩
  have hx := H.row.xlt H.el (b := bx) rfl
  exact (World.cell?_of_block (a := ⟨bx, 0, none⟩) (hb.block bx hx)).trans H.first
theorem inR_look {w wr : World} {q : Nat → Nat → Int} {k L j oc : Nat} {oa : Option Addr} {fd : Bool} (H : InR w q k L (.slice oa L oc) j fd wr) (hj : j < L) :
    ∃ bo g h bx cx xs F, oa = some ⟨bo, 0, none⟩ ∧ InL w q k L (if fd then k + 1 else k) bo oc j wr g h bx cx xs F := by
  obtain ⟨⟨F, ⟨xs, hR, hF⟩, hbel, hFl⟩, hlen, _⟩ := H
  have hn : (if fd then k + 1 else k) ≤ k + 1 := by split <;> omega
  generalize (if fd then k + 1 else k) = n at *
  obtain ⟨g, hg⟩ : ∃ g, (groupsG (sameQ q) n)[j]? = some g := ⟨_, List.getElem?_eq_getElem (by omega)⟩
  have hgm := List.mem_of_getElem? hg
  have hgne := groupsG_ne _ _ g hgm
  have hhl := groupsG_lt _ _ g hgm _ (head_mem hgne)
  have hgl := groupsG_each _ _ g hgm
  have hpos : 1 ≤ g.length := by
    cases g with
    | nil => exact absurd rfl hgne
    | cons a r => simp
  obtain ⟨bo, co, x, hv, hxc, hfz, hx, hxo⟩ := rows_at hR (grpZ_get hg)
  simp only [Value.slice.injEq] at hv
  obtain ⟨rfl, _, rfl⟩ := hv
  obtain ⟨bx, cx, hxv, _, _, hcell, _, _⟩ := own_parts hxo (by simp; omega)
  subst hxv
  refine ⟨bo, g, _, bx, cx, xs, F, rfl, hg, rfl, by omega, ⟨by rw [gZ_len]; exact hpos, by rw [gZ_len]; omega⟩, hR, hF, hbel, hFl, hx, hxc, hfz, ?_, hxo⟩
  refine (hcell 0 (by simp; omega)).trans ?_
  cases g with
  | nil => exact absurd rfl hgne
  | cons a r => rfl
set_option maxHeartbeats 4000000 in
theorem refGroups_any (q : Nat → Nat → Int) (hq : ∀ i, Wds (q i)) (a : Option Addr) (len c : Nat) (w : World) (hs : SigsAt w a len q) (hl : len ≤ 2199023255552) :
    Calls Tryd.prog 29 #[.slice a len c] w fun e w' => ∃ v, e = .returned v ∧ AtW w (RowsH v (grpZ q len)) w' := by
  have HS := Lib.hid hs
  have HQ := Lib.hid hq
  clear hs hq
  go_enter Tryd.func29, Tryd.ntmps29
  go_wp2_with fail
  go_loopw [3, 4] (fun o i wr => ∃ k : Nat, k ≤ len ∧ i = .int .i64 k ∧ Hid (AtW w (RowsH o (grpZ q k)) wr)) (fun _ i _ => len - (intOf i).toNat)
  case atStart => exact ⟨0, by omega, rfl, _, rowsH_nil _, Below.refl _ _, fun _ h => h.elim⟩
  case round =>
    obtain ⟨k, hk, rfl, HR⟩ := hrel
    by_cases hlt : k < len
    · obtain ⟨b, off, rfl, hbw, hc⟩ := HS.out.resolve_left (by omega)
      obtain ⟨L, hL⟩ : ∃ L, (groupsG (sameQ q) k).length = L := ⟨_, rfl⟩
      have hLk : L ≤ k := by rw [← hL]; exact groupsG_len _ _
      have HC : Hid (∀ i, i < len → ∀ j, j < 8 → ∀ W, Below w.heap.size w W → W.cell? ⟨b, off + i * 8 + j, none⟩ = some (.int .u64 (q i j))) := fun i hi j hj W hB => (hB.cell (p := ⟨b, off + i * 8 + j, none⟩) hbw).trans (hc i hi j hj)
      have HL := Lib.hid hL
      clear hc hL
      have hof := HR.out.elim fun F h => h.1.elim fun xs h => ownAt_form h.1.out
      rw [grpZ_len, HL.out] at hof
      obtain ⟨oa, oc, rfl⟩ := hof
      go_wp2_with fail
      go_loopw [5, 6] (fun f i wr => ∃ (j : Nat) (fd : Bool), j ≤ L ∧ i = .int .i64 j ∧ f = .bool fd ∧ Hid (InR w q k L (.slice oa L oc) j fd wr)) (fun _ i _ => L - (intOf i).toNat)
      case atStart => exact ⟨0, false, by omega, rfl, rfl, HR.out, HL.out, fun _ m g h => by omega⟩
      case round =>
        clear HR
        obtain ⟨j, fd, hj, rfl, rfl, HI⟩ := hrel
        by_cases hjl : j < L
        · obtain ⟨bo, g, h, bx, cx, xs, F, rfl, hin⟩ := inR_look HI.out hjl
          have hhk := hin.hk
          have hg0 := hin.len.1
          have hg2 := hin.len.2
          have hhl : h < len := by omega
          have HL2 := Lib.hid hin
          have x0 := hin.cx0
          have x1 := hin.first
          clear hin
          have c0 := HC.out h (by omega) 0 (by omega) wr HL2.out.below
          have c1 := HC.out h (by omega) 1 (by omega) wr HL2.out.below
          have c2 := HC.out h (by omega) 2 (by omega) wr HL2.out.below
          have c3 := HC.out h (by omega) 3 (by omega) wr HL2.out.below
          have c4 := HC.out h (by omega) 4 (by omega) wr HL2.out.below
          have c5 := HC.out h (by omega) 5 (by omega) wr HL2.out.below
          have c6 := HC.out h (by omega) 6 (by omega) wr HL2.out.below
          have c7 := HC.out h (by omega) 7 (by omega) wr HL2.out.below
          have d0 := HC.out k (by omega) 0 (by omega) wr HL2.out.below
          have d1 := HC.out k (by omega) 1 (by omega) wr HL2.out.below
          have d2 := HC.out k (by omega) 2 (by omega) wr HL2.out.below
          have d3 := HC.out k (by omega) 3 (by omega) wr HL2.out.below
          have d4 := HC.out k (by omega) 4 (by omega) wr HL2.out.below
          have d5 := HC.out k (by omega) 5 (by omega) wr HL2.out.below
          have d6 := HC.out k (by omega) 6 (by omega) wr HL2.out.below
          have d7 := HC.out k (by omega) 7 (by omega) wr HL2.out.below
          simp only [Nat.add_zero] at c0 d0
          obtain ⟨gz, hgz⟩ : ∃ gz, gZ g = gz := ⟨_, rfl⟩
          rw [hgz] at hg0 hg2 x0
          have HGZ := Lib.hid hgz
          clear hgz
          generalize hsh : q h = sh at *
          generalize hsk : q k = sk at *
          go_wp2_with fail
          go_still_tail 13, (by kernel_rfl)
          change wpList _ _ _ _ _ wr.drew
          go_wp2_with fail
          have HSM : Hid (sigEq sh sk = sameQ q h k) := by rw [← hsh, ← hsk]; rfl
          clear c0 c1 c2 c3 c4 c5 c6 c7 d0 d1 d2 d3 d4 d5 d6 d7 x0 x1 hsh hsk
          refine (refSame_any sh sk _).mono ?_; rintro e w4 ⟨rfl, hb⟩
          have hb4 : Below wr.heap.size wr w4 := ((Below.refl wr.heap.size wr).drew).trans hb
          have HL4 := Lib.hid (HL2.out.calm hb4)
          have HB4 := Lib.hid hb4
          clear hb hb4 HL2
          cases fd with
          | true =>
            cases hm : sigEq sh sk <;>
            · go_wp2_with fail
              go_roundw
              case rel => exact ⟨j + 1, true, by omega, by go_num, rfl, (HI.out.1.calm (RowsH.good _ _) HB4.out), HI.out.2.1, fun h => by cases h⟩
              case measure => simp [intOf]; omega
          | false =>
            cases hm : sigEq sh sk with
            | false =>
              have HN : Hid (sameQ q h k = false) := HSM.out.symm.trans hm
              clear hm
              go_wp2_with fail
              go_roundw
              case rel =>
                refine ⟨j + 1, false, by omega, by go_num, rfl, (HI.out.1.calm (RowsH.good _ _) HB4.out), HI.out.2.1, fun _ m g2 hm hg2 => ?_⟩
                by_cases e : m = j
                · subst e
                  have h4 := HL4.out.get
                  simp only [Bool.false_eq_true, if_false] at h4
                  obtain rfl := Option.some.inj (hg2.symm.trans h4)
                  rw [HL4.out.head]
                  exact HN.out
                · exact HI.out.2.2 rfl m g2 (by omega) hg2
              case measure => simp [intOf]; omega
            | true =>
              have HY : Hid (sameQ q h k = true) := HSM.out.symm.trans hm
              clear hm
              have x0 := HL4.out.cx0
              have hxo := HL4.out.own
              rw [HGZ.out] at x0 hxo
              have hfz := HL4.out.fz
              have HP : Hid (putG (sameQ q) k (groupsG (sameQ q) k) = (groupsG (sameQ q) k).set j (g ++ [k])) := by
                have h4 := HL4.out.get
                simp only [Bool.false_eq_true, if_false] at h4
                exact putG_hit _ k _ j g h4 (by rw [HL4.out.head]; exact HY.out) (fun m g2 hm h2 => HI.out.2.2 rfl m g2 hm h2)
              have HG5 : Hid ((grpZ q k)[j]? = some gz ∧ grpZ q (k + 1) = (grpZ q k).set j (gz ++ [(k : Int)]) ∧ (groupsG (sameQ q) (k + 1)).length = L) := by
                have h4 := HL4.out.get
                simp only [Bool.false_eq_true, if_false] at h4
                refine ⟨HGZ.out ▸ grpZ_get h4, HGZ.out ▸ grpZ_hit HP.out, ?_⟩
                show (putG _ _ _).length = L
                rw [HP.out, List.length_set]
                exact HL.out
              have HR5 : Hid (RowsAt w4 (.slice (some ⟨bo, 0, none⟩) L oc) (grpZ q k) xs ∧ xs[j]? = some (.slice (some ⟨bx, 0, none⟩) gz.length cx)) := ⟨HL4.out.row, HGZ.out ▸ HL4.out.el⟩
              go_wp2_with (at_builtin; refine wpL_int1 (b := w4.heap.size) (z := (k : Int)) rfl (.tmp 44) (.tmp 46) rfl rfl (hxo.alloc _) rfl (cell_new0 _ _ _) (by omega) ?_; intro xa xc w6 ho2 hg2 hloc; have HST := Lib.hid (rows_grow (g' := gz ++ [(k : Int)]) HR5.out.1 HL4.out.fs HG5.out.1 HR5.out.2 ((Below.refl _ _).alloc (Nat.le_refl _) _) ho2 hg2 hloc rfl); have hkp := rows_keep HR5.out.1 HR5.out.2 ((Below.refl _ _).alloc (Nat.le_refl _) _) hg2 rfl; have x5 := (World.cell?_of_block (a := ⟨bo, j, none⟩) hkp).trans x0; have f5 := (World.frozen?_of_block (a := ⟨bo, j, none⟩) hkp).trans hfz; clear hkp ho2 hg2 hloc)
              go_roundw
              case rel =>
                refine ⟨j + 1, true, by omega, by go_num, rfl, ?_, HG5.out.2.2, fun h => by cases h⟩
                refine AtW.stp HL4.out.below HL4.out.new ?_
                have h := HST.out
                rw [← HG5.out.2.1] at h
                exact h
              case measure => simp [intOf]; omega
        · obtain rfl : j = L := by omega
          cases fd with
          | true =>
            go_wp2_with fail
            go_roundw
            case rel => exact ⟨k + 1, by omega, by go_num, HI.out.1⟩
            case measure => simp [intOf]; omega
          | false =>
            obtain ⟨⟨F, ⟨xs, hR, hF⟩, hbel, hFl⟩, _, hno⟩ := HI.out
            have hRo := hR.out
            simp only [Bool.false_eq_true, if_false] at hRo hR
            rw [grpZ_len, HL.out] at hRo
            have HR6 := Lib.hid (And.intro hR hF)
            have HB6 := Lib.hid (And.intro hbel hFl)
            have HM6 : Hid (grpZ q (k + 1) = grpZ q k ++ [[(k : Int)]]) := by
              refine grpZ_miss (putG_miss _ _ _ (fun g hg => ?_))
              obtain ⟨m, hm⟩ := List.getElem?_of_mem hg
              exact hno rfl m g (by have := (List.getElem?_eq_some_iff.1 hm).1; rw [HL.out] at this; exact this) hm
            clear hR hF hbel hFl hno
            have hcc : ((wr.alloc (.cells #[.int .i64 (k : Int)] 3)).alloc (.cells #[.slice (some ⟨wr.heap.size, 0, none⟩) 1 1] 22)).cell? ⟨wr.heap.size + 1, 0, none⟩ = some (.slice (some ⟨wr.heap.size, 0, none⟩) 1 1) := by
              have h := cell_new0 (wr.alloc (.cells #[.int .i64 (k : Int)] 3)) (.slice (some ⟨wr.heap.size, 0, none⟩) 1 1) 22
              rw [World.size_alloc] at h
              exact h
            go_wp2_with (at_builtin; refine wpL_lists (b := wr.heap.size + 1) (u := .slice (some ⟨wr.heap.size, 0, none⟩) 1 1) rfl (.tmp 51) (.tmp 54) rfl rfl ((hRo.alloc _).alloc _) rfl hcc rfl (by omega) ?_; intro v' w6 ho2 hg2 hloc; clear hcc hRo; have HST := Lib.hid (And.intro ho2 (And.intro hg2 hloc)); clear ho2 hg2 hloc)
            go_roundw
            case rel =>
              refine ⟨k + 1, by omega, by go_num, AtW.stp HB6.out.1 HB6.out.2 ?_⟩
              rw [HM6.out]
              refine rows_app HR6.out.1 HR6.out.2 (((Below.refl _ _).alloc (Nat.le_refl _) _).alloc (by simp) _) ((own_one _ _).alloc _) ?_ ?_ HST.out.2.1 HST.out.2.2
              · intro b e
                simp [Value.ownBlock] at e
                omega
              · rw [grpZ_len, HL.out]
                exact HST.out.1
            case measure => simp [intOf]; omega
    · obtain rfl : k = len := by omega
      go_wp2_with fail
      go_ret
      exact ⟨_, rfl, HR.out⟩
end Go.Proofs.YtcnkoiogfhggeaaDoor
