/- Layer 3: how a memory lies; word. -/
import Derived.Test.YtojkeahffabifaaS3
import Derived.Test.YtojkeahffabifaaM1
import Derived.WalkLawsBesides
import Derived.WalkSpells
namespace Go.Proofs.Ytojkeahffabifaa
open Go.RowKit
set_option linter.unusedVariables false
/-- A memory's words at p: what wd says. -/
def MemW (w : World) (p ring cells : Nat) (wd : Int → Int → Int → Int) (hv sv cv lv : Value) : Prop :=
  w.heap[p]? = some (.cells #[.int .i64 (wd 1 0 0), hv, sv, cv, lv] 89) ∧ w.ownsRow 0 2 1 hv ring (headsV wd ring) ∧ w.ownsRow 0 132 8 sv ring (sigsV wd ring) ∧ w.ownsRow 0 2 1 cv cells (cellsV wd cells)
structure Apart5 (p : Nat) (hv sv cv lv : Value) : Prop where
  hp : hv.ownBlock ≠ some p
  sp : sv.ownBlock ≠ some p
  cp : cv.ownBlock ≠ some p
  lp : lv.ownBlock ≠ some p
  hs : ∀ b, hv.ownBlock = some b → sv.ownBlock ≠ some b
  hc : ∀ b, hv.ownBlock = some b → cv.ownBlock ≠ some b
  hl : ∀ b, hv.ownBlock = some b → lv.ownBlock ≠ some b
  sc : ∀ b, sv.ownBlock = some b → cv.ownBlock ≠ some b
  sl : ∀ b, sv.ownBlock = some b → lv.ownBlock ≠ some b
  cl : ∀ b, cv.ownBlock = some b → lv.ownBlock ≠ some b
/-- The blocks of the words. -/
def WBlk (p : Nat) (hv sv cv : Value) (b : Nat) : Prop := b = p ∨ hv.ownBlock = some b ∨ sv.ownBlock = some b ∨ cv.ownBlock = some b
theorem MemW.chg {S : Nat → Prop} {w w' : World} {p ring cells : Nat} {wd : Int → Int → Int → Int} {hv sv cv lv : Value} (h : MemW w p ring cells wd hv sv cv lv) (hc : Chg S w w') (hS : ∀ b, WBlk p hv sv cv b → ¬ S b) : MemW w' p ring cells wd hv sv cv lv :=
  ⟨(hc.block p (heap_lt h.1) (hS p (.inl rfl))).trans h.1, own_chg h.2.1 hc (fun b hb => hS b (.inr (.inl hb))), own_chg h.2.2.1 hc (fun b hb => hS b (.inr (.inr (.inl hb)))), own_chg h.2.2.2 hc (fun b hb => hS b (.inr (.inr (.inr hb))))⟩
theorem MemW.calm {w w' : World} {p ring cells : Nat} {wd : Int → Int → Int → Int} {hv sv cv lv : Value} (h : MemW w p ring cells wd hv sv cv lv) (hb : Below w.heap.size w w') : MemW w' p ring cells wd hv sv cv lv := h.chg (S := fun _ => False) (Chg.calm _ hb) fun _ _ h => h
/-- Where the word at k i j lies. -/
def PlaceOf (p : Nat) (hv sv cv : Value) (k i j : Int) (g o : Nat) : Prop :=
  (k = 1 ∧ i = 0 ∧ j = 0 ∧ g = p ∧ o = 0) ∨ (k = 2 ∧ j = 0 ∧ hv.ownBlock = some g ∧ i = o) ∨ (k = 3 ∧ (0 ≤ j ∧ j < 8) ∧ sv.ownBlock = some g ∧ i * 8 + j = o) ∨ (k = 4 ∧ j = 0 ∧ cv.ownBlock = some g ∧ i = o)
theorem PlaceOf.blk {p : Nat} {hv sv cv : Value} {k i j : Int} {g o : Nat} (h : PlaceOf p hv sv cv k i j g o) : WBlk p hv sv cv g := by
  rcases h with ⟨_, _, _, h, _⟩ | ⟨_, _, h, _⟩ | ⟨_, _, h, _⟩ | ⟨_, _, h, _⟩
  · exact .inl h
  · exact .inr (.inl h)
  · exact .inr (.inr (.inl h))
  · exact .inr (.inr (.inr h))
theorem own_at {w : World} {B e sz n : Nat} {v : Value} {xs : List Value} (h : w.ownsRow B e sz v n xs) (hn : 0 < n) {g : Nat} (hg : v.ownBlock = some g) : (∀ i, i < n * sz → w.cell? ⟨g, i, none⟩ = xs[i]?) ∧ (∀ o, w.frozen? ⟨g, o, none⟩ = false) ∧ (∀ i x, i < n * sz → (w.setCell ⟨g, i, none⟩ x).ownsRow B e sz v n (xs.set i x)) := by
  obtain ⟨g1, c, hv, _, _, hcell, hf, hset⟩ := own_parts h hn
  subst hv
  obtain rfl : g1 = g := by simpa [Value.ownBlock] using hg
  exact ⟨hcell, hf, hset⟩
theorem place_facts {w : World} {p ring cells : Nat} {wd : Int → Int → Int → Int} {hv sv cv lv : Value} (h : MemW w p ring cells wd hv sv cv lv) (ha : Apart5 p hv sv cv lv) {k i j : Int} (hi : isA ring cells k i j) {g o : Nat} (hp : PlaceOf p hv sv cv k i j g o) :
    w.cell? ⟨g, o, none⟩ = some (.int .i64 (wd k i j)) ∧ (∀ o, w.frozen? ⟨g, o, none⟩ = false) ∧ ∀ v, MemW (w.setCell ⟨g, o, none⟩ (.int .i64 v)) p ring cells (upd wd k i j v) hv sv cv lv := by
  obtain ⟨h1, h2, h3, h4⟩ := h
  rcases hp with ⟨rfl, rfl, rfl, rfl, rfl⟩ | ⟨rfl, rfl, hg, rfl⟩ | ⟨rfl, hj, hg, ho⟩ | ⟨rfl, rfl, hg, rfl⟩
  · refine ⟨by simp [World.cell?, h1], fun o => by simp [World.frozen?, h1], fun v => ⟨(heapSet_eq _ _ _ _ _ _ _ h1).trans (by simp [upd]), ?_, ?_, ?_⟩⟩
    · rw [headsV_other _ _ _ _ _ _ (by decide)]
      exact own_chg h2 (Chg.setCell _ _ _) (fun b hb (e : b = g) => ha.hp (by rw [hb, e]))
    · rw [sigsV_other _ _ _ _ _ _ (by decide)]
      exact own_chg h3 (Chg.setCell _ _ _) (fun b hb (e : b = g) => ha.sp (by rw [hb, e]))
    · rw [cellsV_other _ _ _ _ _ _ (by decide)]
      exact own_chg h4 (Chg.setCell _ _ _) (fun b hb (e : b = g) => ha.cp (by rw [hb, e]))
  · have hir : o < ring := by rcases hi with h | h | h | h <;> omega
    obtain ⟨a1, a2, a3⟩ := own_at h2 (by omega) hg
    refine ⟨(a1 o (by omega)).trans (headsV_get wd hir), a2, fun v => ⟨?_, ?_, ?_, ?_⟩⟩
    · rw [(Chg.setCell _ _ _).block p (heap_lt h1) (fun (e : p = g) => ha.hp (by rw [e]; exact hg)), h1]; simp [upd]
    · rw [headsV_set]; exact a3 o _ (by omega)
    · rw [sigsV_other _ _ _ _ _ _ (by decide)]
      exact own_chg h3 (Chg.setCell _ _ _) (fun b hb (e : b = g) => ha.hs g hg (by rw [hb, e]))
    · rw [cellsV_other _ _ _ _ _ _ (by decide)]
      exact own_chg h4 (Chg.setCell _ _ _) (fun b hb (e : b = g) => ha.hc g hg (by rw [hb, e]))
  · have hir : 0 ≤ i ∧ i < ring := by rcases hi with h | h | h | h <;> omega
    obtain ⟨i, rfl⟩ : ∃ m : Nat, i = m := ⟨i.toNat, by omega⟩
    obtain ⟨j, rfl⟩ : ∃ m : Nat, j = m := ⟨j.toNat, by omega⟩
    obtain rfl : i * 8 + j = o := by omega
    obtain ⟨a1, a2, a3⟩ := own_at h3 (by omega) hg
    refine ⟨(a1 _ (by omega)).trans (sigsV_get wd (by omega) (by omega)), a2, fun v => ⟨?_, ?_, ?_, ?_⟩⟩
    · rw [(Chg.setCell _ _ _).block p (heap_lt h1) (fun (e : p = g) => ha.sp (by rw [e]; exact hg)), h1]; simp [upd]
    · rw [headsV_other _ _ _ _ _ _ (by decide)]
      exact own_chg h2 (Chg.setCell _ _ _) (fun b hb (e : b = g) => ha.hs b hb (by rw [e]; exact hg))
    · rw [sigsV_set _ _ _ _ (by omega)]; exact a3 _ _ (by omega)
    · rw [cellsV_other _ _ _ _ _ _ (by decide)]
      exact own_chg h4 (Chg.setCell _ _ _) (fun b hb (e : b = g) => ha.sc g hg (by rw [hb, e]))
  · have hir : o < cells := by rcases hi with h | h | h | h <;> omega
    obtain ⟨a1, a2, a3⟩ := own_at h4 (by omega) hg
    refine ⟨(a1 o (by omega)).trans (cellsV_get wd hir), a2, fun v => ⟨?_, ?_, ?_, ?_⟩⟩
    · rw [(Chg.setCell _ _ _).block p (heap_lt h1) (fun (e : p = g) => ha.cp (by rw [e]; exact hg)), h1]; simp [upd]
    · rw [headsV_other _ _ _ _ _ _ (by decide)]
      exact own_chg h2 (Chg.setCell _ _ _) (fun b hb (e : b = g) => ha.hc b hb (by rw [e]; exact hg))
    · rw [sigsV_other _ _ _ _ _ _ (by decide)]
      exact own_chg h3 (Chg.setCell _ _ _) (fun b hb (e : b = g) => ha.sc b hb (by rw [e]; exact hg))
    · rw [cellsV_set]; exact a3 o _ (by omega)
end Go.Proofs.Ytojkeahffabifaa
