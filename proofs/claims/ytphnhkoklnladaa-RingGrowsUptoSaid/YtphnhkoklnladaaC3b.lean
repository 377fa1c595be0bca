/- Layer 3: a memory as an object; Load, Store. -/
import Derived.Test.YtphnhkoklnladaaC3a
import Derived.Test.YtphnhkoklnladaaM3
import Derived.Deep.AppendLies
import Derived.Deep.RegionLaw
namespace Go.Proofs.Ytphnhkoklnladaa
open Go.RowKit
set_option linter.unusedVariables false
/-- The program's memory at p, behind the accesses l. -/
def MemH (p ring cells : Nat) (l : List Acc) : HP := fun w F =>
  ∃ hv sv cv lv, MemW w p ring cells (wordOf l) hv sv cv lv ∧ w.ownsRow 0 64 8 lv l.length (accCells l) ∧ Apart5 p hv sv cv lv ∧ ∀ b, F b ↔ WBlk p hv sv cv b ∨ lv.ownBlock = some b
theorem MemH.good (p ring cells : Nat) (l : List Acc) : Good (MemH p ring cells l) where
  chg := by
    rintro w w' F S ⟨hv, sv, cv, lv, h1, h2, h3, h4⟩ hc hS
    exact ⟨hv, sv, cv, lv, h1.chg hc (fun b hb => hS b ((h4 b).2 (.inl hb))), own_chg h2 hc (fun b hb => hS b ((h4 b).2 (.inr hb))), h3, h4⟩
  lt := by
    rintro w F b ⟨hv, sv, cv, lv, h1, h2, h3, h4⟩ h
    rcases (h4 b).1 h with (rfl | h | h | h) | h
    · exact heap_lt h1.1
    · exact (h1.2.1.lt b h).2
    · exact (h1.2.2.1.lt b h).2
    · exact (h1.2.2.2.lt b h).2
    · exact (h2.lt b h).2
theorem infoAcc : (Try.prog.info? 64).map (fun i => (i.zero, i.size, i.bytes)) = some (some (.agg #[.int .i64 0, .int .i64 0, .int .i64 0, .int .i64 0, .int .i64 0, .int .i64 0, .int .i64 0, .bool false]), 8, 64) := by kernel_rfl
theorem eight_at (w : World) (x0 x1 x2 x3 x4 x5 x6 x7 : Value) (T : TypeId) (b : Nat) (hb : b = w.heap.size) : ∀ j u, [x0, x1, x2, x3, x4, x5, x6, x7][j]? = some u → (w.alloc (.cells #[x0, x1, x2, x3, x4, x5, x6, x7] T)).cell? ((⟨b, 0, none⟩ : Addr).add j) = some u := by
  subst hb
  intro j u h
  match j, h with
  | 0, h => simp at h; subst h; simp [Addr.add]
  | 1, h => simp at h; subst h; simp [Addr.add]
  | 2, h => simp at h; subst h; simp [Addr.add]
  | 3, h => simp at h; subst h; simp [Addr.add]
  | 4, h => simp at h; subst h; simp [Addr.add]
  | 5, h => simp at h; subst h; simp [Addr.add]
  | 6, h => simp at h; subst h; simp [Addr.add]
  | 7, h => simp at h; subst h; simp [Addr.add]
  | j + 8, h => simp at h
theorem acc_one (x : Acc) : ∀ u ∈ accCell x, u.oneCell' = true := by
  intro u hu
  simp [accCell] at hu
  rcases hu with rfl | rfl | rfl | rfl | rfl | rfl | rfl | rfl <;> rfl
/-- The log's list has grown. -/
theorem mem_logged {w w2 : World} {F : Nat → Prop} {p ring cells : Nat} {l : List Acc} {x : Acc} {hv sv cv lv lv' : Value} (h1 : MemW w p ring cells (wordOf (l ++ [x])) hv sv cv lv) (h3 : Apart5 p hv sv cv lv) (h4 : ∀ b, F b ↔ WBlk p hv sv cv b ∨ lv.ownBlock = some b)
    (ho : w2.ownsRow 0 64 8 lv' (l.length + 1) (accCells l ++ accCell x)) (hc : Chg (fun b => lv.ownBlock = some b) w w2) (hw : lv'.ownBlock = lv.ownBlock ∨ ∃ b, lv'.ownBlock = some b ∧ w.heap.size ≤ b) :
    MemW (w2.setCell ⟨p, 4, none⟩ lv') p ring cells (wordOf (l ++ [x])) hv sv cv lv' ∧ Apart5 p hv sv cv lv' ∧ Stp w (w2.setCell ⟨p, 4, none⟩ lv') F (MemH p ring cells (l ++ [x])) := by
  have hlv : ∀ b, WBlk p hv sv cv b → b < w.heap.size := by
    rintro b (rfl | h | h | h)
    · exact heap_lt h1.1
    · exact (h1.2.1.lt b h).2
    · exact (h1.2.2.1.lt b h).2
    · exact (h1.2.2.2.lt b h).2
  have hn : ∀ b, WBlk p hv sv cv b → lv.ownBlock ≠ some b := by
    rintro b (rfl | h | h | h)
    · exact h3.lp
    · exact h3.hl b h
    · exact h3.sl b h
    · exact h3.cl b h
  have hn' : ∀ b, WBlk p hv sv cv b → lv'.ownBlock ≠ some b := by
    intro b hb e
    rcases hw with h | ⟨b', h, hb'⟩
    · exact hn b hb (h ▸ e)
    · rw [h] at e
      have := hlv b hb
      simp at e; omega
  have hm := h1.chg hc (fun b hb e => hn b hb e)
  have k1 : MemW (w2.setCell ⟨p, 4, none⟩ lv') p ring cells (wordOf (l ++ [x])) hv sv cv lv' := ⟨(heapSet_eq _ _ _ _ _ _ _ hm.1).trans (by simp), own_chg hm.2.1 (Chg.setCell _ _ _) (fun b hb (e : b = p) => h3.hp (by rw [hb, e])), own_chg hm.2.2.1 (Chg.setCell _ _ _) (fun b hb (e : b = p) => h3.sp (by rw [hb, e])), own_chg hm.2.2.2 (Chg.setCell _ _ _) (fun b hb (e : b = p) => h3.cp (by rw [hb, e]))⟩
  have k2 : Apart5 p hv sv cv lv' := ⟨h3.hp, h3.sp, h3.cp, hn' p (.inl rfl), h3.hs, h3.hc, fun b hb => hn' b (.inr (.inl hb)), h3.sc, fun b hb => hn' b (.inr (.inr (.inl hb))), fun b hb => hn' b (.inr (.inr (.inr hb)))⟩
  refine ⟨k1, k2, fun b => WBlk p hv sv cv b ∨ lv'.ownBlock = some b, ⟨hv, sv, cv, lv', k1, ?_, k2, fun b => Iff.rfl⟩, ?_, ?_⟩
  · rw [accCells_snoc, List.length_append]
    exact own_chg ho (Chg.setCell _ _ _) (fun b hb (e : b = p) => hn' p (.inl rfl) (by rw [hb, e]))
  · exact (hc.mono (fun b hb => (h4 b).2 (.inr hb))).set _ _ (.inr ((h4 p).2 (.inl (.inl rfl))))
  · rintro b (h | h)
    · exact .inl ((h4 b).2 (.inl h))
    · rcases hw with e | ⟨b', e, hb'⟩
      · exact .inl ((h4 b).2 (.inr (e ▸ h)))
      · rw [e] at h
        simp at h; right; omega
theorem wordOf_ldk (l : List Acc) (th k i j v : Int) (a b c : Int) : wordOf (l ++ [ldAcc th k i j v]) a b c = wordOf l a b c := by rw [wordOf_ld]
end Go.Proofs.Ytphnhkoklnladaa
