/- Layer 3: a memory as an object; Load, Store. -/
import Derived.Test.YtojkeahffabifaaC3a
import Derived.Test.YtojkeahffabifaaM3
import Derived.Deep.AppendLies
import Derived.Test.YtojkeahffabifaaAW
import Derived.Deep.RegionLaw
namespace Go.Proofs.Ytojkeahffabifaa
open Go.RowKit
set_option linter.unusedVariables false
/-- The program's memory at p, behind the accesses l. -/
def MemH (p ring cells : Nat) (l : List Acc) : HP := fun w F =>
  ∃ hv sv cv lv, MemW w p ring cells (wordOf l) hv sv cv lv ∧ w.ownsRow 0 117 8 lv l.length (accCells l) ∧ Apart5 p hv sv cv lv ∧ ∀ b, F b ↔ WBlk p hv sv cv b ∨ lv.ownBlock = some b
theorem MemH.good (p ring cells : Nat) (l : List Acc) : Good (MemH p ring cells l) where
  chg := by
    rintro w w' F S ⟨hv, sv, cv, lv, h1, h2, h3, h4⟩ hc hS
    exact ⟨hv, sv, cv, lv, h1.chg hc (fun b hb => hS b ((h4 b).2 (.inl hb))), own_chg h2 hc (fun b hb => hS b ((h4 b).2 (.inr hb))), h3, h4⟩
  lt := by
    rintro w F b ⟨hv, sv, cv, lv, h1, h2, h3, h4⟩ h
    rcases (h4 b).1 h with (rfl | h | h | h) | h
    · exact heap_lt h1.1
    · exact (h1.2.1.lt b h).2
    · exact (h1.2.2.1.lt b h).2
    · exact (h1.2.2.2.lt b h).2
    · exact (h2.lt b h).2
theorem infoAcc : (Try.prog.info? 117).map (fun i => (i.zero, i.size, i.bytes)) = some (some (.agg #[.int .i64 0, .int .i64 0, .int .i64 0, .int .i64 0, .int .i64 0, .int .i64 0, .int .i64 0, .bool false]), 8, 64) := by kernel_rfl
theorem eight_at (w : World) (x0 x1 x2 x3 x4 x5 x6 x7 : Value) (T : TypeId) (b : Nat) (hb : b = w.heap.size) : ∀ j u, [x0, x1, x2, x3, x4, x5, x6, x7][j]? = some u → (w.alloc (.cells #[x0, x1, x2, x3, x4, x5, x6, x7] T)).cell? ((⟨b, 0, none⟩ : Addr).add j) = some u := by
  subst hb
  intro j u h
  match j, h with
  | 0, h => simp at h; subst h; simp [Addr.add]
  | 1, h => simp at h; subst h; simp [Addr.add]
  | 2, h => simp at h; subst h; simp [Addr.add]
  | 3, h => simp at h; subst h; simp [Addr.add]
  | 4, h => simp at h; subst h; simp [Addr.add]
  | 5, h => simp at h; subst h; simp [Addr.add]
  | 6, h => simp at h; subst h; simp [Addr.add]
  | 7, h => simp at h; subst h; simp [Addr.add]
  | j + 8, h => simp at h
theorem acc_one (x : Acc) : ∀ u ∈ accCell x, u.oneCell' = true := by
  intro u hu
  simp [accCell] at hu
  rcases hu with rfl | rfl | rfl | rfl | rfl | rfl | rfl | rfl <;> rfl
/-- The log's list has grown. -/
theorem mem_logged {w w2 : World} {F : Nat → Prop} {p ring cells : Nat} {l : List Acc} {x : Acc} {hv sv cv lv lv' : Value} (h1 : MemW w p ring cells (wordOf (l ++ [x])) hv sv cv lv) (h3 : Apart5 p hv sv cv lv) (h4 : ∀ b, F b ↔ WBlk p hv sv cv b ∨ lv.ownBlock = some b)
    (ho : w2.ownsRow 0 117 8 lv' (l.length + 1) (accCells l ++ accCell x)) (hc : Chg (fun b => lv.ownBlock = some b) w w2) (hw : lv'.ownBlock = lv.ownBlock ∨ ∃ b, lv'.ownBlock = some b ∧ w.heap.size ≤ b) :
    MemW (w2.setCell ⟨p, 4, none⟩ lv') p ring cells (wordOf (l ++ [x])) hv sv cv lv' ∧ Apart5 p hv sv cv lv' ∧ Stp w (w2.setCell ⟨p, 4, none⟩ lv') F (MemH p ring cells (l ++ [x])) := by
  have hlv : ∀ b, WBlk p hv sv cv b → b < w.heap.size := by
    rintro b (rfl | h | h | h)
    · exact heap_lt h1.1
    · exact (h1.2.1.lt b h).2
    · exact (h1.2.2.1.lt b h).2
    · exact (h1.2.2.2.lt b h).2
  have hn : ∀ b, WBlk p hv sv cv b → lv.ownBlock ≠ some b := by
    rintro b (rfl | h | h | h)
    · exact h3.lp
    · exact h3.hl b h
    · exact h3.sl b h
    · exact h3.cl b h
  have hn' : ∀ b, WBlk p hv sv cv b → lv'.ownBlock ≠ some b := by
    intro b hb e
    rcases hw with h | ⟨b', h, hb'⟩
    · exact hn b hb (h ▸ e)
    · rw [h] at e
      have := hlv b hb
      simp at e; omega
  have hm := h1.chg hc (fun b hb e => hn b hb e)
  have k1 : MemW (w2.setCell ⟨p, 4, none⟩ lv') p ring cells (wordOf (l ++ [x])) hv sv cv lv' := ⟨(heapSet_eq _ _ _ _ _ _ _ hm.1).trans (by simp), own_chg hm.2.1 (Chg.setCell _ _ _) (fun b hb (e : b = p) => h3.hp (by rw [hb, e])), own_chg hm.2.2.1 (Chg.setCell _ _ _) (fun b hb (e : b = p) => h3.sp (by rw [hb, e])), own_chg hm.2.2.2 (Chg.setCell _ _ _) (fun b hb (e : b = p) => h3.cp (by rw [hb, e]))⟩
  have k2 : Apart5 p hv sv cv lv' := ⟨h3.hp, h3.sp, h3.cp, hn' p (.inl rfl), h3.hs, h3.hc, fun b hb => hn' b (.inr (.inl hb)), h3.sc, fun b hb => hn' b (.inr (.inr (.inl hb))), fun b hb => hn' b (.inr (.inr (.inr hb)))⟩
  refine ⟨k1, k2, fun b => WBlk p hv sv cv b ∨ lv'.ownBlock = some b, ⟨hv, sv, cv, lv', k1, ?_, k2, fun b => Iff.rfl⟩, ?_, ?_⟩
  · rw [accCells_snoc, List.length_append]
    exact own_chg ho (Chg.setCell _ _ _) (fun b hb (e : b = p) => hn' p (.inl rfl) (by rw [hb, e]))
  · exact (hc.mono (fun b hb => (h4 b).2 (.inr hb))).set _ _ (.inr ((h4 p).2 (.inl (.inl rfl))))
  · rintro b (h | h)
    · exact .inl ((h4 b).2 (.inl h))
    · rcases hw with e | ⟨b', e, hb'⟩
      · exact .inl ((h4 b).2 (.inr (e ▸ h)))
      · rw [e] at h
        simp at h; right; omega
theorem wordOf_ldk (l : List Acc) (th k i j v : Int) (a b c : Int) : wordOf (l ++ [ldAcc th k i j v]) a b c = wordOf l a b c := by rw [wordOf_ld]
set_option maxHeartbeats 2000000 in
set_option maxRecDepth 100000 in
theorem load_in (p ring cells : Nat) (l : List Acc) (hlen : l.length ≤ 3000000000000) (th k i j : Int) (ha : isA ring cells k i j) :
    Lifts Try.prog 68 #[.pointer (some ⟨p, 0, none⟩), .int .i64 th, .agg #[.int .i64 k, .int .i64 i, .int .i64 j]] (MemH p ring cells l) (MemH p ring cells (l ++ [ldAcc th k i j (wordOf l k i j)])) (.returned (.tuple #[.int .i64 (wordOf l k i j), .int .i64 0])) := by
  rintro w F ⟨hv, sv, cv, lv, h1, h2, h3, h4⟩
  obtain ⟨i0, hi, hI0, hI1, hI2⟩ := info_parts infoAcc
  obtain ⟨la, lc, rfl⟩ := ownAt_form h2
  have H1 := Lib.hid h1
  have H2 := Lib.hid h2
  have H3 := Lib.hid h3
  have H4 := Lib.hid h4
  have HA := Lib.hid ha
  clear h1 h2 h3 h4 ha
  go_enter Try.func68, Try.ntmps68
  go_wp2_with fail
  have hb0 : Below w.heap.size w (w.alloc (.cells #[.int .i64 k, .int .i64 i, .int .i64 j] 59)) := (Below.refl _ _).alloc (Nat.le_refl _) _
  refine (word_in _ p ring cells (wordOf l) hv sv cv _ (H1.out.calm hb0) k i j HA.out).mono ?_
  rintro e w1 ⟨⟨g, o, rfl, hpl⟩, hb1⟩
  have hb : Hid (Below w.heap.size w w1) := hb0.trans (hb1.mono (by simp))
  have hM := H1.out.calm hb.out
  obtain ⟨hcell, hfz, _⟩ := place_facts hM H3.out HA.out hpl
  obtain ⟨p0, _, _, _, p4, fz⟩ := mem_cells hM.1
  have hbx : w1.heap[w.heap.size]? = some (.cells #[.int .i64 k, .int .i64 i, .int .i64 j] 59) := (hb1.block _ (by simp)).trans (heapAlloc w _)
  have q0 : w1.cell? ⟨w.heap.size, 0, none⟩ = some (.int .i64 k) := by simp [World.cell?, hbx]
  have q1 : w1.cell? ⟨w.heap.size, 1, none⟩ = some (.int .i64 i) := by simp [World.cell?, hbx]
  have q2 : w1.cell? ⟨w.heap.size, 2, none⟩ = some (.int .i64 j) := by simp [World.cell?, hbx]
  have hown := own_calm H2.out hb.out
  have HM := Lib.hid hM
  have HPL := Lib.hid hpl
  clear hb0 hb1 hM hpl hbx
  generalize hV : wordOf l k i j = v at *
  have HV := Lib.hid hV
  clear hV
  go_wp2_with fail
  have HG := Lib.hid hown
  have hpl := heap_lt HM.out.1
  go_region_law ((refine stepW_lies (by rfl) (.tmp 18) (.tmp 25) 81 (by rfl) 0 117 i0 (.agg #[.int .i64 0, .int .i64 0, .int .i64 0, .int .i64 0, .int .i64 0, .int .i64 0, .int .i64 0, .bool false]) 8 64 Try.underlying81 hi hI0 hI1 hI2 (by rfl) (by decide) _ _ _ (by rfl) (World.ownsRow.alloc (w := w1.drew) HG.out _) ⟨w1.heap.size, 0, none⟩ 1 1 (accCell (ldAcc th k i j v)) (by rfl) (by rfl) (eight_at w1.drew _ _ _ _ _ _ _ _ _ _ rfl) (acc_one _) (by decide) (by unfold maxLen; omega) (by omega) (Nat.zero_le _) _ rfl ?_; intro g2 c2 w2 hown2 hgrow hat hlt; have HP2 : Hid (w2.heap[p]? = some (.cells #[.int .i64 (wordOf l 1 0 0), hv, sv, cv, .slice la l.length lc] 89)) := (hgrow.block p (by simp; exact Nat.lt_succ_of_lt hpl) (fun e => H3.out.lp e.symm)).trans (heapAlloc_old (w := w1.drew) HM.out.1 _); obtain ⟨_, _, _, _, p4', fz'⟩ := mem_cells HP2.out))
  all_goals
    have hC : Chg (fun b => (Value.slice la l.length lc).ownBlock = some b) w1 w2 := (Chg.alloc _ _ _).drew.grow hgrow (fun b hb _ => hb)
    have hW : (Value.slice (some ⟨g2, 0, none⟩) (l.length + 1) c2).ownBlock = (Value.slice la l.length lc).ownBlock ∨ ∃ b, (Value.slice (some ⟨g2, 0, none⟩) (l.length + 1) c2).ownBlock = some b ∧ w1.heap.size ≤ b := by
      rcases hat with e | e
      · exact .inl (by rw [e]; rfl)
      · exact .inr ⟨g2, rfl, by rw [e]; simp⟩
    have hMl : MemW w1 p ring cells (wordOf (l ++ [ldAcc th k i j v])) hv sv cv (.slice la l.length lc) := by rw [wordOf_ld]; exact HM.out
    obtain ⟨k1, k2, k3⟩ := mem_logged hMl H3.out H4.out hown2 hC hW
    obtain ⟨hcell3, hfz3, _⟩ := place_facts k1 k2 HA.out HPL.out
    rw [wordOf_ldk, HV.out] at hcell3
    have K3 := Lib.hid k3
    clear k1 k2 k3 hC hW hMl hown2 hgrow hat hlt hown p4 fz q0 q1 q2 p4' fz' hfz hcell HP2
    generalize w2.setCell ⟨p, 4, none⟩ (.slice (some ⟨g2, 0, none⟩) (l.length + 1) c2) = ws at *
    go_wp2_with fail
    go_ret2
    rw [HV.out]
    exact ⟨rfl, K3.out.pre hb.out⟩
end Go.Proofs.Ytojkeahffabifaa
