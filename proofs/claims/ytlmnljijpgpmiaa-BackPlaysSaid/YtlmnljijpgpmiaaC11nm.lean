/- Layer 11: the reference's Takes. -/
import Derived.Test.YtlmnljijpgpmiaaC11g
import Derived.Test.YtlmnljijpgpmiaaC11rm
import Derived.Test.YtlmnljijpgpmiaaC11f
import Derived.Test.YtlmnljijpgpmiaaM2
import Derived.Test.YtlmnljijpgpmiaaC3i
namespace Go.Proofs.Ytlmnljijpgpmiaa
open Go.RowKit
set_option linter.unusedVariables false
/-- A list that comes in, wherever it begins in its block. -/
def ArgO (w : World) (v : Value) (W : List (Int × Int)) : Prop := ∃ a c, v = .slice a W.length c ∧ (W ≠ [] → ∃ g o, a = some ⟨g, o, none⟩ ∧ g < w.heap.size ∧ ∀ k, k < W.length * 2 → w.cell? ⟨g, o + k, none⟩ = (wcells W)[k]?)
theorem ArgO.calm {w w' : World} {v : Value} {W : List (Int × Int)} (h : ArgO w v W) (hb : Below w.heap.size w w') : ArgO w' v W := by
  obtain ⟨a, c, hv, h⟩ := h
  refine ⟨a, c, hv, fun hW => ?_⟩
  obtain ⟨g, o, rfl, hg, hc⟩ := h hW
  exact ⟨g, o, rfl, Nat.lt_of_lt_of_le hg hb.size, fun k hk => (hb.cell (p := ⟨g, o + k, none⟩) hg).trans (hc k hk)⟩
theorem rtakes11_loop (c0 n c2 c3 : Int) (mu : Bool) (c5 : Int) (c6 : Value) (st : Int) (v : Value) (W : List (Int × Int)) (w : World) (hA : ArgO w v W) (h1 : 1 ≤ n) (h2 : n ≤ 16) (h3 : 1 ≤ st) (h4 : st ≤ 1099511627776) (h5 : W.length ≤ 24) : Calls Try.prog 16 #[.agg #[.int .i64 c0, .int .i64 n, .int .i64 c2, .int .i64 c3, .bool mu, .int .i64 c5, c6], .int .i64 st, v] w fun e w' => e = .returned (.bool (decide (wOk W))) ∧ Below w.heap.size w w' := by
  obtain ⟨a, c, rfl, hA⟩ := hA
  have HA := Lib.hid hA
  obtain ⟨N, hN⟩ : ∃ N, W.length = N := ⟨_, rfl⟩
  have HN := Lib.hid hN
  rw [hN] at h5 ⊢
  have h5i : (N : Int) ≤ 24 := by omega
  have HB : Hid (∀ o, Below w.heap.size w (w.alloc o)) := fun o => (Below.refl _ _).alloc (Nat.le_refl _) _
  clear hA h5 hN
  go_enter Try.func16, Try.ntmps16
  go_wp2_with fail
  go_loopw [7] (fun i wr => ∃ k : Nat, k ≤ N ∧ i = .int .i64 k ∧ Hid (Below w.heap.size w wr ∧ wOk (W.take k))) (fun i _ => N - (intOf i).toNat)
  case atStart => exact ⟨0, by omega, rfl, HB.out _, fun z hz => by simp at hz⟩
  case round =>
    obtain ⟨i, hi, rfl, HK⟩ := hrel
    by_cases hlt : i < N
    · have hlt2 : ((i : Int) < (N : Int)) := by omega
      have hW : W ≠ [] := by rintro rfl; have := HN.out; simp at this; omega
      obtain ⟨gg, oo, rfl, hg, hc⟩ := HA.out hW
      obtain ⟨z, hz⟩ : ∃ z, W[i]? = some z := ⟨_, List.getElem?_eq_getElem (by rw [HN.out]; exact hlt)⟩
      have hx2 := (HK.out.1.cell (p := ⟨gg, oo + i * 2, none⟩) hg).trans ((hc (i * 2) (by rw [HN.out]; omega)).trans (wcells_at hz).1)
      have HM : Hid (z ∈ W) := List.mem_of_getElem? hz
      have HZ := Lib.hid hz
      clear hc hg hz hW
      by_cases hz0 : z.1 < 0
      · go_wp2_with fail
        go_ret
        refine ⟨?_, HK.out.1⟩
        have hd : decide (wOk W) = false := decide_eq_false (fun h => absurd (h z HM.out).1 (by omega))
        rw [hd]; rfl
      · by_cases hz1 : 1024 ≤ z.1
        · go_wp2_with fail
          go_ret
          refine ⟨?_, HK.out.1⟩
          have hd : decide (wOk W) = false := decide_eq_false (fun h => absurd (h z HM.out).2 (by omega))
          rw [hd]; rfl
        · go_wp2_with fail
          refine ⟨⟨i + 1, by omega, by go_num, HK.out.1, ?_⟩, by simp [intOf]; omega⟩
          rw [take_next HZ.out]
          intro u hu
          rcases List.mem_append.1 hu with hu | hu
          · exact HK.out.2 u hu
          · rw [List.mem_singleton.1 hu]; exact ⟨by omega, by omega⟩
    · have hlt2 : ¬ ((i : Int) < (N : Int)) := by omega
      go_wp2_with fail
      go_ret
      refine ⟨?_, HK.out.1⟩
      have h := HK.out.2
      rw [List.take_of_length_le (by rw [HN.out]; omega)] at h
      have hd : decide (wOk W) = true := decide_eq_true h
      rw [hd]; rfl
theorem rtakes11_bad (c0 n c2 c3 : Int) (mu : Bool) (c5 : Int) (c6 : Value) (st : Int) (a : Option Addr) (N c : Nat) (h : ¬ ((1 ≤ n ∧ n ≤ 16) ∧ (1 ≤ st ∧ st ≤ 1099511627776) ∧ N ≤ 24)) (w : World) :
    Calls Try.prog 16 #[.agg #[.int .i64 c0, .int .i64 n, .int .i64 c2, .int .i64 c3, .bool mu, .int .i64 c5, c6], .int .i64 st, .slice a N c] w fun e w' => e = .returned (.bool false) ∧ Below w.heap.size w w' := by
  have HB : Hid (∀ o, Below w.heap.size w (w.alloc o)) := fun o => (Below.refl _ _).alloc (Nat.le_refl _) _
  by_cases h1 : 1 ≤ n
  · by_cases h2 : n ≤ 16
    · by_cases h3 : 1 ≤ st
      · by_cases h4 : st ≤ 1099511627776
        · have h5 : ¬ (N : Int) ≤ 24 := fun h5 => h ⟨⟨h1, h2⟩, ⟨h3, h4⟩, by omega⟩
          clear h
          go_enter Try.func16, Try.ntmps16
          go_wp2_with fail
          go_ret
          exact ⟨rfl, HB.out _⟩
        · clear h
          go_enter Try.func16, Try.ntmps16
          go_wp2_with fail
          go_ret
          exact ⟨rfl, HB.out _⟩
      · clear h
        go_enter Try.func16, Try.ntmps16
        go_wp2_with fail
        go_ret
        exact ⟨rfl, HB.out _⟩
    · clear h
      go_enter Try.func16, Try.ntmps16
      go_wp2_with fail
      go_ret
      exact ⟨rfl, HB.out _⟩
  · clear h
    go_enter Try.func16, Try.ntmps16
    go_wp2_with fail
    go_ret
    exact ⟨rfl, HB.out _⟩
end Go.Proofs.Ytlmnljijpgpmiaa
namespace Go.Proofs.Ytlmnljijpgpmiaa
open Go.RowKit
set_option linter.unusedVariables false
theorem rbNil_at {w : World} {y : Nat} (cs : Array Value) (d : BD) (hy : y = w.heap.size) (hlv : d.lv = .slice none 0 0) (hW : d.W = []) (hf : rbC d 0 false (.slice none 0 0) = cs) : AtW w (RBakH y d 0 [] false) (w.alloc (.cells cs 73)) := by
  subst hy
  refine ⟨fun b => b = w.heap.size, ⟨fun _ => False, fun b => b = w.heap.size, ⟨?_, fun b => ⟨fun h => h.elim, fun h => by rw [hlv] at h; simp [Value.ownBlock] at h⟩⟩, ⟨.slice none 0 0, (heapAlloc _ _).trans (by rw [hf]), World.ownsRow_nil _ _ _ _, by simp [Value.ownBlock], fun b => ⟨fun h => .inl h, fun h => h.elim id (fun h => by simp [Value.ownBlock] at h)⟩⟩, fun b => ⟨fun h => .inr h, fun h => h.elim (fun h => h.elim) id⟩, fun b h => h.elim⟩, (Below.refl _ _).alloc (Nat.le_refl _) _, fun b h => Nat.le_of_eq h.symm⟩
  rw [hlv, hW]
  exact World.ownsRow_nil _ _ _ _
theorem wcells_snoc (W : List (Int × Int)) (a b : Int) : wcells (W ++ [(a, b)]) = wcells W ++ [.int .i64 a, .int .i64 b] := by
  unfold wcells
  rw [List.flatMap_append]; rfl
/-- The list of what is written has grown. -/
theorem rb_grown {w wr w2 : World} {y : Nat} {d : BD} {lv' : Value} {a b : Int} (h : AtW w (RBakH y d 0 [] false) wr) (ho : w2.ownsRow 0 29 2 lv' (d.W.length + 1) (wcells d.W ++ [.int .i64 a, .int .i64 b])) (hc : Chg (fun b => d.lv.ownBlock = some b) wr w2) (hw : lv'.ownBlock = d.lv.ownBlock ∨ ∃ b, lv'.ownBlock = some b ∧ wr.heap.size ≤ b) :
    AtW w (RBakH y { d with lv := lv', W := d.W ++ [(a, b)] } 0 [] false) (w2.setCell ⟨y, 3, none⟩ lv') := by
  obtain ⟨F, ⟨FA, FB, ⟨h1, h2⟩, ⟨lvL, k1, k2, k3, k4⟩, hF, hd⟩, q2, q3⟩ := h
  have hy : FB y := (k4 y).2 (.inl rfl)
  have hyl := heap_lt k1
  have hlvL : ∀ b, lvL.ownBlock = some b → b < wr.heap.size := fun b h => (k2.lt b h).2
  have hny : ∀ b, FB b → lv'.ownBlock ≠ some b := by
    intro b hb e
    rcases hw with hw | ⟨b', e', hb'⟩
    · exact hd b ((h2 b).2 (hw ▸ e)) hb
    · rw [e'] at e
      have hbl : b < wr.heap.size := by
        rcases (k4 b).1 hb with rfl | h
        · exact hyl
        · exact hlvL b h
      simp at e; omega
  have hm := (hc.block y hyl (fun e => hd y ((h2 y).2 e) hy)).trans k1
  refine AtW.stp q2 q3 ⟨fun b => lv'.ownBlock = some b ∨ FB b, ⟨fun b => lv'.ownBlock = some b, FB, ⟨?_, fun b => Iff.rfl⟩, ⟨lvL, (heapSet_eq _ _ _ _ _ _ _ hm).trans (by simp [rbC]), ?_, k3, k4⟩, fun b => Iff.rfl, fun b h1 h2 => hny b h2 h1⟩, ?_, ?_⟩
  · show World.ownsRow _ 0 _ 2 lv' (d.W ++ [(a, b)]).length (wcells (d.W ++ [(a, b)]))
    rw [wcells_snoc, List.length_append]
    exact own_chg ho (Chg.setCell _ _ _) (fun b hb (e : b = y) => hny y hy (by rw [hb, e]))
  · exact own_chg (own_chg k2 hc (fun b hb e => hd b ((h2 b).2 e) ((k4 b).2 (.inr hb)))) (Chg.setCell _ _ _) (fun b hb (e : b = y) => k3 (by rw [hb, e]))
  · exact (hc.mono (fun b hb => (hF b).2 (.inl ((h2 b).2 hb)))).set _ _ (.inr ((hF y).2 (.inr hy)))
  · rintro b (h | h)
    · rcases hw with e | ⟨b', e, hb'⟩
      · exact .inl ((hF b).2 (.inl ((h2 b).2 (e ▸ h))))
      · rw [e] at h
        simp at h; right; omega
    · exact .inl ((hF b).2 (.inr h))
theorem rsig8_moves {w : World} (y : Nat) (d : BD) (k : Nat) (L : List Int) (sn : Bool) (s : Nat → Int) : Moves (LstH y (rbC d k sn) 73 2 L) (LstH y (rbC { d with s := s } k sn) 73 2 L) w (sig8b w y s) := by
  rintro F ⟨lv, h, h2, h3, hF⟩
  have hx : F y := (hF y).2 (.inl rfl)
  have hC : Chg (fun b => b = y) w (sig8b w y s) := ((((((((Chg.refl (fun b => b = y) w).set _ _ (.inr rfl)).set _ _ (.inr rfl)).set _ _ (.inr rfl)).set _ _ (.inr rfl)).set _ _ (.inr rfl)).set _ _ (.inr rfl)).set _ _ (.inr rfl)).set _ _ (.inr rfl)
  exact ⟨F, ⟨lv, (heapSet_eq _ _ _ _ _ _ _ (heapSet_eq _ _ _ _ _ _ _ (heapSet_eq _ _ _ _ _ _ _ (heapSet_eq _ _ _ _ _ _ _ (heapSet_eq _ _ _ _ _ _ _ (heapSet_eq _ _ _ _ _ _ _ (heapSet_eq _ _ _ _ _ _ _ (heapSet_eq _ _ _ _ _ _ _ h)))))))).trans (by simp [rbC]), own_chg h2 hC (fun b hb (e : b = y) => h3 (by rw [hb, e])), h3, hF⟩, hC.mono (fun b hb => by rw [hb]; exact hx), fun _ h => .inl h⟩
/-- New has answered. -/
def RBNew (w : World) (n : Nat) (st : Int) (mu : Bool) (W : List (Int × Int)) (e : Ending) (w' : World) : Prop := ∃ y lv, e = .returned (.pointer (some ⟨y, 0, none⟩)) ∧ AtW w (RBakH y (mkD n st mu lv W) 0 [] false) w'
/-- The machine, half made: of the first k of what is written. -/
def RHalf (w : World) (n : Nat) (st : Int) (mu : Bool) (W : List (Int × Int)) (y k : Nat) (wr : World) : Prop := ∃ lv, AtW w (RBakH y (mkD n st mu lv (W.take k)) 0 [] false) wr
theorem rb_two_at (w : World) (a b : Value) (T : TypeId) (p : Nat) (hp : p = w.heap.size) : ∀ j u, [a, b][j]? = some u → (w.alloc (.cells #[a, b] T)).cell? ((⟨p, 0, none⟩ : Addr).add j) = some u := by
  subst hp
  intro j u h
  match j, h with
  | 0, h => simp at h; subst h; simp [Addr.add]
  | 1, h => simp at h; subst h; simp [Addr.add]
  | j + 2, h => simp at h
set_option maxRecDepth 100000 in
set_option maxHeartbeats 8000000 in
theorem rbNew_any (c0 : Int) (n : Nat) (c2 c3 : Int) (mu : Bool) (c5 : Int) (c6 : Value) (st : Int) (v : Value) (W : List (Int × Int)) (w : World) (hA : ArgO w v W) (h5 : W.length ≤ 24) :
    Calls Try.prog 19 #[.agg #[.int .i64 c0, .int .i64 n, .int .i64 c2, .int .i64 c3, .bool mu, .int .i64 c5, c6], .int .i64 st, v] w (RBNew w n st mu W) := by
  obtain ⟨a, c, rfl, hA⟩ := hA
  obtain ⟨i0, hi, hI0, hI1, hI2⟩ := info_parts infoWr
  have HA := Lib.hid hA
  obtain ⟨N, hN⟩ : ∃ N, W.length = N := ⟨_, rfl⟩
  have HN := Lib.hid hN
  rw [hN] at h5 ⊢
  clear hA hN
  have HS0 : Hid (∀ wc cs, Below w.heap.size w wc → cs = rbC (mkD n st mu (.slice none 0 0) (W.take 0)) 0 false (.slice none 0 0) → RHalf w n st mu W wc.heap.size 0 (wc.alloc (.cells cs 73))) := fun wc cs hb hcs =>
    ⟨.slice none 0 0, (rbNil_at cs (mkD n st mu (.slice none 0 0) (W.take 0)) rfl rfl rfl hcs.symm).up hb⟩
  have HB0 : Hid (∀ o, Below w.heap.size w (w.alloc o)) := fun o => (Below.refl _ _).alloc (Nat.le_refl _) _
  go_enter Try.func19, Try.ntmps19
  go_wp2_with fail
  have HH := Lib.hid (HS0.out _ #[.int .i64 n, .bool mu, .int .i64 st, .slice none 0 0, .int .u64 0, .int .u64 0, .int .u64 0, .int .u64 0, .int .u64 0, .int .u64 0, .int .u64 0, .int .u64 0, .int .i64 0, .slice none 0 0, .bool false] (HB0.out (.cells #[.int .i64 c0, .int .i64 n, .int .i64 c2, .int .i64 c3, .bool mu, .int .i64 c5, c6] 36)) rfl)
  rw [World.size_alloc] at HH
  have HB1 : Hid (Below w.heap.size w ((w.alloc (.cells #[.int .i64 c0, .int .i64 n, .int .i64 c2, .int .i64 c3, .bool mu, .int .i64 c5, c6] 36)).alloc (.cells #[.int .i64 n, .bool mu, .int .i64 st, .slice none 0 0, .int .u64 0, .int .u64 0, .int .u64 0, .int .u64 0, .int .u64 0, .int .u64 0, .int .u64 0, .int .u64 0, .int .i64 0, .slice none 0 0, .bool false] 73))) := (HB0.out _).alloc (by simp) _
  generalize ((w.alloc (.cells #[.int .i64 c0, .int .i64 n, .int .i64 c2, .int .i64 c3, .bool mu, .int .i64 c5, c6] 36)).alloc (.cells #[.int .i64 n, .bool mu, .int .i64 st, .slice none 0 0, .int .u64 0, .int .u64 0, .int .u64 0, .int .u64 0, .int .u64 0, .int .u64 0, .int .u64 0, .int .u64 0, .int .i64 0, .slice none 0 0, .bool false] 73)) = w1 at *
  clear HS0 HB0
  go_loopw [8] (fun i wr => ∃ k : Nat, k ≤ N ∧ i = .int .i64 k ∧ Hid (RHalf w n st mu W (w.heap.size + 1) k wr)) (fun i _ => N - (intOf i).toNat)
  case atStart => exact ⟨0, by omega, rfl, HH.out⟩
  case round =>
    obtain ⟨k, hk, rfl, HR⟩ := hrel
    by_cases hlt : k < N
    · obtain ⟨lv, hA⟩ := HR.out
      obtain ⟨⟨y1, y2⟩, hz⟩ : ∃ z, W[k]? = some z := ⟨_, List.getElem?_eq_getElem (by rw [HN.out]; exact hlt)⟩
      obtain ⟨gl, go, rfl, hg, hcell⟩ := HA.out (fun e => by rw [e] at hz; simp at hz)
      obtain ⟨q0', q1'⟩ := wcells_at hz
      have hkl : (k : Int) < N := by omega
      have HQ : Hid (∀ wr, Below w.heap.size w wr → wr.cell? ⟨gl, go + k * 2, none⟩ = some (.int .i64 y1) ∧ wr.cell? ⟨gl, go + k * 2 + 1, none⟩ = some (.int .i64 y2) ∧ gl < wr.heap.size) := fun wr hb => ⟨(hb.cell (p := ⟨gl, go + k * 2, none⟩) hg).trans ((hcell _ (by rw [HN.out]; omega)).trans q0'), (hb.cell (p := ⟨gl, go + k * 2 + 1, none⟩) hg).trans ((hcell _ (by rw [HN.out]; omega)).trans q1'), Nat.lt_of_lt_of_le hg hb.size⟩
      obtain ⟨q0, q1, hgl⟩ := HQ.out _ hA.below
      have HAT := Lib.hid hA
      have hlk : (W.take k).length = k := by rw [List.length_take, HN.out]; omega
      obtain ⟨FR, hrow, hFR⟩ := hA.has.left
      obtain ⟨_, lvL, g, hoL, hnL, hFL⟩ := hA.has.right
      have hrow : wr.ownsRow 0 29 2 lv k (wcells (W.take k)) := by have h := hrow; rw [show ((mkD n st mu lv (W.take k)).W).length = k from hlk] at h; exact h
      obtain ⟨la, lc, rfl⟩ := ownAt_form hrow
      have hne : (Value.slice la k lc).ownBlock ≠ some (w.heap.size + 1) := by
        obtain ⟨F, ⟨FA, FB, ⟨_, h2⟩, ⟨_, _, _, _, k4⟩, _, hd⟩, _⟩ := HAT.out
        exact fun e => hd _ ((h2 _).2 e) ((k4 _).2 (.inl rfl))
      have HNE := Lib.hid hne
      have hR := rb_cells g
      have e3 : wr.cell? ⟨w.heap.size + 1, 3, none⟩ = some (.slice la k lc) := hR.c3
      have fz := hR.fz
      have G := Lib.hid g
      have hyl := heap_lt g
      have HG := Lib.hid hrow
      have HZ := Lib.hid hz
      have HLK := Lib.hid hlk
      clear hA hrow hR hne hcell q0' q1' hz g hoL hnL hFL hFR hlk HR
      go_wp2_with fail
      go_region_law ((refine step_append_lies _ (by rfl) (.tmp 26) (.tmp 31) 22 (by rfl) 0 29 i0 (.agg #[.int .i64 0, .int .i64 0]) 2 16 Try.underlying22 hi hI0 hI1 hI2 (by rfl) (by decide) _ _ _ (by rfl) (World.ownsRow.alloc (w := wr.drew) HG.out _) ⟨wr.heap.size, 0, none⟩ 1 1 [.int .i64 y1, .int .i64 y2] (by rfl) (by rfl) (rb_two_at wr.drew _ _ _ _ rfl) (by intro u hu; simp at hu; rcases hu with rfl | rfl <;> rfl) (by decide) (by unfold maxLen; omega) (by omega) (Nat.zero_le _) _ rfl ?_; intro g2 c2' w2 hown2 hgrow hat hlt2; have HP2 := Lib.hid ((hgrow.block (w.heap.size + 1) (by have := hyl; simp; omega) (fun e => HNE.out e.symm)).trans (heapAlloc_old (w := wr.drew) G.out _)); have hR2 := rb_cells HP2.out; have e3' := hR2.c3; have fz' := hR2.fz))
      all_goals
        have hC : Chg (fun b => (Value.slice la k lc).ownBlock = some b) wr w2 := (Chg.alloc _ _ _).drew.grow hgrow (fun b hb _ => hb)
        have hW : (Value.slice (some ⟨g2, 0, none⟩) (k + 1) c2').ownBlock = (Value.slice la k lc).ownBlock ∨ ∃ b, (Value.slice (some ⟨g2, 0, none⟩) (k + 1) c2').ownBlock = some b ∧ wr.heap.size ≤ b := by
          rcases hat with e | e
          · exact .inl (by rw [e]; rfl)
          · exact .inr ⟨g2, rfl, by rw [e]; simp⟩
        have hM := rb_grown (lv' := .slice (some ⟨g2, 0, none⟩) (k + 1) c2') (a := y1) (b := y2) HAT.out (by rw [show (mkD n st mu (.slice la k lc) (W.take k)).W.length = k from HLK.out]; exact hown2) hC hW
        have HM := Lib.hid hM
        clear hM hC hW hown2 hgrow hat hlt2 HP2 hR2 e3' fz' e3 fz G HG hyl q0 q1 hgl HNE
        generalize w2.setCell ⟨w.heap.size + 1, 3, none⟩ (.slice (some ⟨g2, 0, none⟩) (k + 1) c2') = ws at *
        obtain ⟨q0, q1, hgl⟩ := HQ.out _ HM.out.below
        obtain ⟨_, lvL2, g3, _⟩ := HM.out.has.right
        have hR := rb_cells g3
        have hyl2 := heap_lt g3
        have fz := hR.fz
        have r0 : ws.cell? ⟨w.heap.size + 1, 4, none⟩ = some (.int .u64 (ofS ((W.take k).map Prod.fst) 0)) := hR.rd 0 (by decide)
        have r1 : ws.cell? ⟨w.heap.size + 1, 5, none⟩ = some (.int .u64 (ofS ((W.take k).map Prod.fst) 1)) := hR.rd 1 (by decide)
        have r2 : ws.cell? ⟨w.heap.size + 1, 6, none⟩ = some (.int .u64 (ofS ((W.take k).map Prod.fst) 2)) := hR.rd 2 (by decide)
        have r3 : ws.cell? ⟨w.heap.size + 1, 7, none⟩ = some (.int .u64 (ofS ((W.take k).map Prod.fst) 3)) := hR.rd 3 (by decide)
        have r4 : ws.cell? ⟨w.heap.size + 1, 8, none⟩ = some (.int .u64 (ofS ((W.take k).map Prod.fst) 4)) := hR.rd 4 (by decide)
        have r5 : ws.cell? ⟨w.heap.size + 1, 9, none⟩ = some (.int .u64 (ofS ((W.take k).map Prod.fst) 5)) := hR.rd 5 (by decide)
        have r6 : ws.cell? ⟨w.heap.size + 1, 10, none⟩ = some (.int .u64 (ofS ((W.take k).map Prod.fst) 6)) := hR.rd 6 (by decide)
        have r7 : ws.cell? ⟨w.heap.size + 1, 11, none⟩ = some (.int .u64 (ofS ((W.take k).map Prod.fst) 7)) := hR.rd 7 (by decide)
        have HFIN : Hid (∀ w3, Below ws.heap.size ws w3 → RHalf w n st mu W (w.heap.size + 1) (k + 1) (sig8b w3 (w.heap.size + 1) (withS (ofS ((W.take k).map Prod.fst)) y1))) := by
          intro w3 hb3
          refine ⟨.slice (some ⟨g2, 0, none⟩) (k + 1) c2', ?_⟩
          have h2 := AtW.mv (AtW.calm (RBakH.good _ _ _ _ _) HM.out hb3) (Moves.right (RowH.good _ _) (rsig8_moves (w.heap.size + 1) _ 0 [] false (withS (ofS ((W.take k).map Prod.fst)) y1)))
          unfold mkD
          rw [take_next HZ.out, List.map_append, List.map_cons, List.map_nil, ofS_snoc11]
          exact h2
        have hsw : Wds (ofS ((W.take k).map Prod.fst)) := ofS_wds _
        clear hR g3 HM HAT HZ HLK
        generalize ofS ((W.take k).map Prod.fst) = s at *
        have HWI := Lib.hid (fun w => refWith_any s hsw y1 w)
        generalize hs' : withS s y1 = s' at *
        clear hs' hsw
        go_wp2_with fail
        go_region_law ((go_simp; go_at_call 31; (with_reducible refine (HWI.out _).mono ?_); rintro e w3 ⟨rfl, hb2⟩; have hb3 := Below.trans ((Below.refl ws.heap.size ws).drew) hb2; have HB3 := Lib.hid hb3; have u0 := (hb3.cell (p := ⟨w.heap.size + 1, 4, none⟩) hyl2).trans r0; have u1 := (hb3.cell (p := ⟨w.heap.size + 1, 5, none⟩) hyl2).trans r1; have u2 := (hb3.cell (p := ⟨w.heap.size + 1, 6, none⟩) hyl2).trans r2; have u3 := (hb3.cell (p := ⟨w.heap.size + 1, 7, none⟩) hyl2).trans r3; have u4 := (hb3.cell (p := ⟨w.heap.size + 1, 8, none⟩) hyl2).trans r4; have u5 := (hb3.cell (p := ⟨w.heap.size + 1, 9, none⟩) hyl2).trans r5; have u6 := (hb3.cell (p := ⟨w.heap.size + 1, 10, none⟩) hyl2).trans r6; have u7 := (hb3.cell (p := ⟨w.heap.size + 1, 11, none⟩) hyl2).trans r7; have uz : ∀ o, w3.frozen? ⟨w.heap.size + 1, o, none⟩ = false := fun o => (hb3.frozen (p := ⟨w.heap.size + 1, o, none⟩) hyl2).trans (fz o)))
        all_goals
          have hfin := Lib.hid (HFIN.out _ HB3.out)
          unfold sig8b at hfin
          clear u0 u1 u2 u3 u4 u5 u6 u7 uz hb2 hb3 HB3 HWI r0 r1 r2 r3 r4 r5 r6 r7 fz q0 q1
          go_wp2_with fail
          go_roundw
          case rel => exact ⟨k + 1, by omega, by go_num, hfin.out⟩
          case measure => simp [intOf]; omega
    · obtain rfl : k = N := by omega
      go_wp2_with fail
      go_ret
      obtain ⟨lv, hA⟩ := HR.out
      rw [List.take_of_length_le (by rw [HN.out]; omega)] at hA
      exact ⟨_, lv, rfl, hA⟩
end Go.Proofs.Ytlmnljijpgpmiaa
namespace Go.Proofs.Ytlmnljijpgpmiaa
open Go.RowKit
set_option linter.unusedVariables false
def zer2 (n : Nat) : Array Value := (List.replicate n (Value.int .i64 0)).toArray
theorem madeCells2 (n : Nat) : (madeCells #[Value.int .i64 0, .int .i64 0] (n * 2)) = zer2 (n * 2) := by
  apply Array.ext
  · simp [madeCells, zer2]
  · intro i h1 h2
    have : i % 2 = 0 ∨ i % 2 = 1 := by omega
    simp only [madeCells, zer2, Array.getElem_map, Array.getElem_range, List.getElem_toArray, List.getElem_replicate]
    show (_ : Array Value)[i % 2]! = _
    rcases this with h | h <;> rw [h] <;> rfl
theorem makeW11 (n : Nat) (hn : n ≤ 8796093022000) : ∃ cs : Array Value, Hid (cs = zer2 (n * 2)) ∧ ∀ w : World, (Instr.makeSlice 22 (.int .i64 n) (.int .i64 n)).run Try.prog w = .ok (.slice (some ⟨w.heap.size, 0, none⟩) n n) (w.alloc (.cells cs 29)) := by
  obtain ⟨i0, hi, hI0, hI1, hI2⟩ := info_parts infoWr
  refine ⟨_, (madeCells2 n), fun w => ?_⟩
  have h := run_make (P := Try.prog) w 22 29 i0 _ Try.underlying22 hi hI0 .i64 .i64 n n (by omega) (Int.le_refl _) (by rw [hI2]; omega) (by omega)
  rw [hI1] at h
  simp only [Int.toNat_natCast] at h
  exact h
theorem run_copy_into {P : Program} (w : World) (dT sT ty e : TypeId) (i : TypeInfo) (sz : Nat) (hu : P.underlying dT = some (.slice e)) (hi : P.info? e = some i) (hsz : i.size = sz)
    (g n m c m' : Nat) (hnm : n ≤ m) (cur : Array Value) (T : TypeId) (hg : w.heap[g]? = some (.cells cur T)) (hcs : n * sz ≤ cur.size) (a : Option Addr) (xs : List Value) (hl : xs.length = n * sz) (hs : n ≠ 0 → ∃ ad, a = some ad ∧ ∀ j v, xs[j]? = some v → w.cell? (ad.add j) = some v) (h1 : ∀ v ∈ xs, v.oneCell' = true) :
    ∃ w', (Builtin.copy_ #[dT, sT] ty #[.slice (some ⟨g, 0, none⟩) m m', .slice a n c]).run P w = .ok (goInt n) w' ∧ w'.heap[g]? = some (.cells (xs ++ cur.toList.drop (n * sz)).toArray T) ∧ w.grownBy w' (some g) := by
  subst hsz
  have hgr : w.grownBy w (some g) := ⟨rfl, rfl, rfl, Nat.le_refl _, fun _ _ _ => rfl⟩
  have hmin : min n m = n := Nat.min_eq_left hnm
  by_cases h0 : n = 0
  · subst h0
    obtain rfl : xs = [] := List.eq_nil_of_length_eq_zero (by omega)
    refine ⟨w, ?_, by simpa using hg, hgr⟩
    cases a with
    | none => simp [Builtin.copy_, run_underlying hu, Builtin.lenOf, Builtin.firstCells, sizeOf, typeInfo, hi, storeCells]
    | some ad =>
      have hl0 := run_loadCells_list (P := P) w ad [] (fun j v h => by simp at h)
      simp only [List.length_nil] at hl0
      simp [Builtin.copy_, run_underlying hu, Builtin.lenOf, Builtin.firstCells, sizeOf, typeInfo, hi, hl0, storeCells]
  · obtain ⟨ad, rfl, hsrc⟩ := hs h0
    have hf := run_firstCells_some (P := P) w i.size n ad n c xs hl hsrc
    have hst := run_storeCells_at P g 0 T xs 0 cur w hg (by omega) h1
    refine ⟨w.setRow g (cur.toList.take (0 + 0) ++ xs ++ cur.toList.drop (0 + 0 + xs.length)).toArray, ?_, ?_, ⟨rfl, rfl, rfl, by simp [World.setRow], fun k _ hk => setRow_other w g k _ (fun e => hk (by simp [e]))⟩⟩
    · simp [Builtin.copy_, run_underlying hu, Builtin.lenOf, sizeOf, typeInfo, hi, hmin, hf, hst]
    · rw [setRow_heap w g cur _ T _ hg, ← hl]
      simp
theorem wpList_copy_into {P : Program} {w : World} {ops : Array Oper} {rest : List Oper} {o : Oper} {ac : Act} {Q : Exit → Act → World → Prop} (hgd : o.guard = none) (d s : Operand) (dT sT : TypeId)
    (ho : o.op = .call { callee := .builtin .copy, args := #[d, s], argTypes := #[dT, sT] }) (e : TypeId) (i : TypeInfo) (sz : Nat) (hu : P.underlying dT = some (.slice e)) (hi : P.info? e = some i) (hsz : i.size = sz)
    (g n m c m' : Nat) (a : Option Addr) (hd : ac.eval d = .slice (some ⟨g, 0, none⟩) m m') (hs : ac.eval s = .slice a n c) (hnm : n ≤ m) (cur : Array Value) (T : TypeId) (hg : w.heap[g]? = some (.cells cur T)) (hcs : n * sz ≤ cur.size) (xs : List Value) (hl : xs.length = n * sz) (hsr : n ≠ 0 → ∃ ad, a = some ad ∧ ∀ j v, xs[j]? = some v → w.cell? (ad.add j) = some v) (h1 : ∀ v ∈ xs, v.oneCell' = true)
    (h : ∀ w', w'.heap[g]? = some (.cells (xs ++ cur.toList.drop (n * sz)).toArray T) → w.grownBy w' (some g) → wpList P ops Q rest (ac.put o.dst (goInt n)) w') : wpList P ops Q (o :: rest) ac w := by
  refine wpList_plain hgd fun K hK => ?_
  obtain ⟨w', hrun, r1, r2⟩ := run_copy_into (P := P) w dT sT o.type e i sz hu hi hsz g n m c m' hnm cur T hg hcs a xs hl hsr h1
  unfold Oper.wp
  simp [execOp, ho, resolve, invoke, builtin, hd, hs, hrun, Result.andThen]
  exact hK _ _ (h w' r1 r2)
/-- The copy: from the place i on it holds what was copied, and nothing behind. -/
def InH (g i : Nat) (W : List (Int × Int)) : HP := fun w F => (∃ arr : Array Value, w.heap[g]? = some (.cells arr 29) ∧ arr.size = (W.length + 1) * 2 ∧ (∀ k z, i ≤ k → W[k]? = some z → arr[k * 2]? = some (.int .i64 z.1) ∧ arr[k * 2 + 1]? = some (.int .i64 z.2)) ∧ arr[W.length * 2]? = some (.int .i64 0) ∧ arr[W.length * 2 + 1]? = some (.int .i64 0)) ∧ ∀ b, F b ↔ b = g
theorem InH.good (g i : Nat) (W : List (Int × Int)) : Good (InH g i W) where
  chg := by
    rintro w w' F S ⟨⟨arr, h1, h2⟩, hF⟩ hc hS
    exact ⟨⟨arr, (hc.block g (heap_lt h1) (hS g ((hF g).2 rfl))).trans h1, h2⟩, hF⟩
  lt := by
    rintro w F b ⟨⟨arr, h1, h2⟩, hF⟩ hb
    obtain rfl := (hF b).1 hb
    exact heap_lt h1
theorem cell_of {w : World} {g k : Nat} {arr : Array Value} {T : TypeId} {v : Value} (h : w.heap[g]? = some (.cells arr T)) (hv : arr[k]? = some v) : w.cell? ⟨g, k, none⟩ = some v := by
  obtain ⟨hk, e⟩ := Array.getElem?_eq_some_iff.1 hv
  simp [World.cell?, h, hk, e]
theorem frz_of {w : World} {g : Nat} {arr : Array Value} {T : TypeId} (h : w.heap[g]? = some (.cells arr T)) (k : Nat) : w.frozen? ⟨g, k, none⟩ = false := by
  simp [World.frozen?, h]
theorem InH.at {w : World} {g i : Nat} {W : List (Int × Int)} (h : Has (InH g i W) w) {z : Int × Int} (hz : W[i]? = some z) : w.cell? ⟨g, i * 2, none⟩ = some (.int .i64 z.1) ∧ w.cell? ⟨g, i * 2 + 1, none⟩ = some (.int .i64 z.2) ∧ ∀ o, w.frozen? ⟨g, o, none⟩ = false := by
  obtain ⟨F, ⟨arr, h1, h2, h3, h4, h5⟩, hF⟩ := h
  obtain ⟨e1, e2⟩ := h3 i z (Nat.le_refl _) hz
  exact ⟨cell_of h1 e1, cell_of h1 e2, fun o => frz_of h1 o⟩
theorem InH.last {w : World} {g i : Nat} {W : List (Int × Int)} (h : Has (InH g i W) w) : w.cell? ⟨g, W.length * 2, none⟩ = some (.int .i64 0) ∧ w.cell? ⟨g, W.length * 2 + 1, none⟩ = some (.int .i64 0) := by
  obtain ⟨F, ⟨arr, h1, h2, h3, h4, h5⟩, hF⟩ := h
  exact ⟨cell_of h1 h4, cell_of h1 h5⟩
theorem InH.set {w : World} {g i : Nat} {W : List (Int × Int)} (hi : i < W.length) (u v : Value) : Moves (InH g i W) (InH g (i + 1) W) w ((w.setCell ⟨g, i * 2, none⟩ u).setCell ⟨g, i * 2 + 1, none⟩ v) := by
  rintro F ⟨⟨arr, h1, h2, h3, h4, h5⟩, hF⟩
  have hx : F g := (hF g).2 rfl
  refine ⟨F, ⟨⟨(arr.setIfInBounds (i * 2) u).setIfInBounds (i * 2 + 1) v, heapSet_eq _ _ _ _ _ _ _ (heapSet_eq _ _ _ _ _ _ _ h1), by simp [h2], ?_, ?_, ?_⟩, hF⟩, ((Chg.refl F w).set _ _ (.inr hx)).set _ _ (.inr hx), fun _ h => .inl h⟩
  · intro k z hk hz
    obtain ⟨e1, e2⟩ := h3 k z (by omega) hz
    refine ⟨?_, ?_⟩
    · rw [Array.getElem?_setIfInBounds, if_neg (by omega), Array.getElem?_setIfInBounds, if_neg (by omega)]; exact e1
    · rw [Array.getElem?_setIfInBounds, if_neg (by omega), Array.getElem?_setIfInBounds, if_neg (by omega)]; exact e2
  · rw [Array.getElem?_setIfInBounds, if_neg (by omega), Array.getElem?_setIfInBounds, if_neg (by omega)]; exact h4
  · rw [Array.getElem?_setIfInBounds, if_neg (by omega), Array.getElem?_setIfInBounds, if_neg (by omega)]; exact h5
/-- Behind the copy. -/
theorem InH.made {w0 w : World} {g : Nat} {W : List (Int × Int)} (h : w.heap[g]? = some (.cells (wcells W ++ (zer2 ((W.length + 1) * 2)).toList.drop (W.length * 2)).toArray 29)) (hb : Below w0.heap.size w0 w) (hg : w0.heap.size ≤ g) : AtW w0 (InH g 0 W) w ∧ ∀ c, ArgW w (.slice (some ⟨g, 0, none⟩) W.length c) W := by
  have hd : (zer2 ((W.length + 1) * 2)).toList.drop (W.length * 2) = [.int .i64 0, .int .i64 0] := by
    unfold zer2
    simp only [List.drop_replicate]
    rw [show (W.length + 1) * 2 - W.length * 2 = 2 by omega]
    rfl
  rw [hd] at h
  refine ⟨⟨fun b => b = g, ⟨⟨_, h, by simp [wcells_len]; omega, ?_, ?_, ?_⟩, fun _ => Iff.rfl⟩, hb, fun b e => by omega⟩, ?_⟩
  · intro k z _ hz
    obtain ⟨e1, e2⟩ := wcells_at hz
    have hk := (List.getElem?_eq_some_iff.1 hz).1
    simp only [List.getElem?_toArray]
    rw [List.getElem?_append_left (by rw [wcells_len]; omega), List.getElem?_append_left (by rw [wcells_len]; omega)]
    exact ⟨e1, e2⟩
  · simp only [List.getElem?_toArray]
    rw [List.getElem?_append_right (by rw [wcells_len]; omega), wcells_len, Nat.sub_self]; rfl
  · simp only [List.getElem?_toArray]
    rw [List.getElem?_append_right (by rw [wcells_len]; omega), wcells_len, show W.length * 2 + 1 - W.length * 2 = 1 by omega]; rfl
  · intro c
    refine ⟨_, _, rfl, fun _ => ⟨g, rfl, heap_lt h, fun k hk => ?_⟩⟩
    obtain ⟨v, hv⟩ : ∃ v, (wcells W)[k]? = some v := ⟨_, List.getElem?_eq_getElem (by rw [wcells_len]; exact hk)⟩
    rw [hv]
    refine cell_of h ?_
    simp only [List.getElem?_toArray]
    rw [List.getElem?_append_left (by rw [wcells_len]; exact hk)]
    exact hv
theorem eqWr11 (a b : Int) (w : World) : (Op.equalIn 10000 29 (.agg #[.int .i64 a, .int .i64 b]) (.agg #[.int .i64 a, .int .i64 b])).run Try.prog w = .ok true w := by
  rw [run_equalIn_struct w 9999 29 _ _ (by kernel_rfl) (by kernel_rfl)]
  have hk : (Try.prog.fieldsOf 29).toList.map (fun f => ((f.name != "_", Try.prog.plainKey f.type, Try.prog.underlying f.type), f.offset)) = [((true, true, some (.int .i64)), 0), ((true, true, some (.int .i64)), 1)] := by kernel_rfl
  obtain ⟨f0, r0, hf, e0, hk1⟩ := List.map_eq_cons_iff.1 hk
  obtain ⟨f1, r1, rfl, e1, hk2⟩ := List.map_eq_cons_iff.1 hk1
  obtain rfl := List.map_eq_nil_iff.1 hk2
  rw [Prod.mk.injEq] at e0 e1
  rw [hf]
  exact eqF3_int (a := a) e0.1 (by rw [e0.2]; rfl) (eqF3_int (a := b) e1.1 (by rw [e1.2]; rfl) (eqF3_nil _ _ _ _))
theorem eqWr11F (a b : Int) (w : World) : (Op.equalIn 10000 29 (.agg #[.int .i64 a, .int .i64 b]) (.agg #[.int .i64 a, .int .i64 b])).run Try.prog w = .ok true w := eqWr11 a b w
end Go.Proofs.Ytlmnljijpgpmiaa
