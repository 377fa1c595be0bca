/- The ring that grows, as an object; fit. -/
import Derived.Test.YtojkeahffabifaaG0
import Derived.Test.YtojkeahffabifaaSG
import Derived.Test.YtojkeahffabifaaC2g
import Derived.Test.YtojkeahffabifaaR1
import Derived.Deep.AppendLies
import Derived.Deep.RegionLaw
namespace Go.Proofs.Ytojkeahffabifaa
open Go.RowKit
set_option linter.unusedVariables false
def wrCell (r : Int × Int) : List Value := [.int .i64 r.1, .int .i64 r.2]
def wrCells (l : List (Int × Int)) : List Value := l.flatMap wrCell
def entCell (q : Value × Ent) : List Value := [q.1, .int .u64 (q.2.sg 0), .int .u64 (q.2.sg 1), .int .u64 (q.2.sg 2), .int .u64 (q.2.sg 3), .int .u64 (q.2.sg 4), .int .u64 (q.2.sg 5), .int .u64 (q.2.sg 6), .int .u64 (q.2.sg 7), .int .i64 q.2.bk]
def entCells (l : List (Value × Ent)) : List Value := l.flatMap entCell
theorem flat_len {α : Type} (f : α → List Value) (n : Nat) (hf : ∀ x, (f x).length = n) : ∀ l : List α, (l.flatMap f).length = l.length * n
  | [] => by simp
  | x :: l => by rw [List.flatMap_cons, List.length_append, hf, flat_len f n hf l, List.length_cons, Nat.add_mul]; omega
theorem flat_get {α : Type} (f : α → List Value) (n : Nat) (hf : ∀ x, (f x).length = n) : ∀ (l : List α) (i j : Nat) (x : α), l[i]? = some x → j < n → (l.flatMap f)[i * n + j]? = (f x)[j]?
  | [], i, j, x, h, _ => by simp at h
  | y :: l, 0, j, x, h, hj => by
    simp at h; subst h
    rw [List.flatMap_cons, List.getElem?_append_left (by rw [hf]; omega)]
    simp
  | y :: l, i + 1, j, x, h, hj => by
    rw [List.flatMap_cons, List.getElem?_append_right (by rw [hf, Nat.add_mul]; omega), hf]
    rw [show (i + 1) * n + j - n = i * n + j by rw [Nat.add_mul]; omega]
    exact flat_get f n hf l i j x (by simpa using h) hj
theorem flat_set {α : Type} (f : α → List Value) (n : Nat) (hf : ∀ x, (f x).length = n) : ∀ (l : List α) (i j : Nat) (x x' : α) (v : Value), l[i]? = some x → j < n → f x' = (f x).set j v → (l.set i x').flatMap f = (l.flatMap f).set (i * n + j) v
  | [], i, j, x, x', v, h, _, _ => by simp at h
  | y :: l, 0, j, x, x', v, h, hj, he => by
    simp at h; subst h
    rw [List.set_cons_zero, List.flatMap_cons, List.flatMap_cons, List.set_append_left _ _ (by rw [hf]; omega), he]
    simp
  | y :: l, i + 1, j, x, x', v, h, hj, he => by
    rw [List.set_cons_succ, List.flatMap_cons, List.flatMap_cons, List.set_append_right _ _ (by rw [hf, Nat.add_mul]; omega), hf]
    rw [show (i + 1) * n + j - n = i * n + j by rw [Nat.add_mul]; omega]
    rw [flat_set f n hf l i j x x' v (by simpa using h) hj he]
theorem entCells_set (l : List (Value × Ent)) (i : Nat) (v : Value) (e : Ent) (bk : Nat) (h : l[i]? = some (v, e)) : entCells (l.set i (v, ⟨e.ws, e.sg, bk⟩)) = (entCells l).set (i * 10 + 9) (.int .i64 bk) :=
  flat_set entCell 10 (fun _ => rfl) l i 9 (v, e) _ _ h (by omega) rfl
/-- A ring that grows, at p. -/
def GrowH (p size : Nat) (g : GS) : HP := fun w F => ∃ lv ps,
  ps.map Prod.snd = g.es ∧ w.heap[p]? = some (.cells #[.int .i64 size, lv, .int .i64 g.laid, .int .i64 g.done] 35) ∧
  w.ownsRow 0 94 10 lv ps.length (entCells ps) ∧ lv.ownBlock ≠ some p ∧ F p ∧ (∀ b, lv.ownBlock = some b → F b) ∧
  (∀ q ∈ ps, w.ownsRow 0 97 2 q.1 q.2.ws.length (wrCells q.2.ws) ∧ ∀ b, q.1.ownBlock = some b → F b ∧ b ≠ p ∧ lv.ownBlock ≠ some b) ∧ ∀ b, F b → b < w.heap.size
theorem GrowH.good (p size : Nat) (g : GS) : Good (GrowH p size g) where
  chg := by
    rintro w w' F S ⟨lv, ps, h1, h2, h3, h4, h5, h6, h7, h8⟩ hc hS
    exact ⟨lv, ps, h1, (hc.block p (heap_lt h2) (hS p h5)).trans h2, own_chg h3 hc (fun b hb => hS b (h6 b hb)), h4, h5, h6, fun q hq => ⟨own_chg (h7 q hq).1 hc (fun b hb => hS b ((h7 q hq).2 b hb).1), (h7 q hq).2⟩, fun b hb => Nat.lt_of_lt_of_le (h8 b hb) hc.size⟩
  lt := by
    rintro w F b ⟨lv, ps, h1, h2, h3, h4, h5, h6, h7, h8⟩ h
    exact h8 b h
/-- What stands at an entry. -/
structure EntR (w : World) (gb i : Nat) (v : Value) (e : Ent) : Prop where
  e0 : w.cell? ⟨gb, i * 10, none⟩ = some v
  e1 : w.cell? ⟨gb, i * 10 + 1, none⟩ = some (.int .u64 (e.sg 0))
  e2 : w.cell? ⟨gb, i * 10 + 2, none⟩ = some (.int .u64 (e.sg 1))
  e3 : w.cell? ⟨gb, i * 10 + 3, none⟩ = some (.int .u64 (e.sg 2))
  e4 : w.cell? ⟨gb, i * 10 + 4, none⟩ = some (.int .u64 (e.sg 3))
  e5 : w.cell? ⟨gb, i * 10 + 5, none⟩ = some (.int .u64 (e.sg 4))
  e6 : w.cell? ⟨gb, i * 10 + 6, none⟩ = some (.int .u64 (e.sg 5))
  e7 : w.cell? ⟨gb, i * 10 + 7, none⟩ = some (.int .u64 (e.sg 6))
  e8 : w.cell? ⟨gb, i * 10 + 8, none⟩ = some (.int .u64 (e.sg 7))
  e9 : w.cell? ⟨gb, i * 10 + 9, none⟩ = some (.int .i64 e.bk)
theorem ent_at {w : World} {lv : Value} {ps : List (Value × Ent)} (h : w.ownsRow 0 94 10 lv ps.length (entCells ps)) {i : Nat} {v : Value} {e : Ent} (hi : ps[i]? = some (v, e)) :
    ∃ gb c, lv = .slice (some ⟨gb, 0, none⟩) ps.length c ∧ gb < w.heap.size ∧ EntR w gb i v e ∧ (∀ o, w.frozen? ⟨gb, o, none⟩ = false) ∧ ∀ bk : Nat, (w.setCell ⟨gb, i * 10 + 9, none⟩ (.int .i64 bk)).ownsRow 0 94 10 lv ps.length (entCells (ps.set i (v, ⟨e.ws, e.sg, bk⟩))) := by
  have hl : i < ps.length := (List.getElem?_eq_some_iff.1 hi).1
  obtain ⟨gb, c, h1, _, h2, h3, h4, h5⟩ := own_parts h (by omega)
  have hg : ∀ j, j < 10 → w.cell? ⟨gb, i * 10 + j, none⟩ = (entCell (v, e))[j]? := fun j hj => (h3 _ (by omega)).trans (flat_get entCell 10 (fun _ => rfl) ps i j _ hi hj)
  refine ⟨gb, c, h1, h2, ⟨hg 0 (by omega), hg 1 (by omega), hg 2 (by omega), hg 3 (by omega), hg 4 (by omega), hg 5 (by omega), hg 6 (by omega), hg 7 (by omega), hg 8 (by omega), hg 9 (by omega)⟩, h4, fun bk => ?_⟩
  rw [entCells_set _ _ _ _ _ hi]
  exact h5 _ _ (by omega)
theorem wr_at {B : Nat} {w : World} {v : Value} {ws : List (Int × Int)} (h : w.ownsRow B 97 2 v ws.length (wrCells ws)) {i : Nat} {r : Int × Int} (hi : ws[i]? = some r) :
    ∃ gb c, v = .slice (some ⟨gb, 0, none⟩) ws.length c ∧ gb < w.heap.size ∧ w.cell? ⟨gb, i * 2, none⟩ = some (.int .i64 r.1) ∧ w.cell? ⟨gb, i * 2 + 1, none⟩ = some (.int .i64 r.2) ∧ ∀ o, w.frozen? ⟨gb, o, none⟩ = false := by
  have hl : i < ws.length := (List.getElem?_eq_some_iff.1 hi).1
  obtain ⟨gb, c, h1, _, h2, h3, h4, h5⟩ := own_parts h (by omega)
  have hg : ∀ j, j < 2 → w.cell? ⟨gb, i * 2 + j, none⟩ = (wrCell r)[j]? := fun j hj => (h3 _ (by omega)).trans (flat_get wrCell 2 (fun _ => rfl) ws i j _ hi hj)
  exact ⟨gb, c, h1, h2, hg 0 (by omega), hg 1 (by omega), h4⟩
theorem infoWr : (Try.prog.info? 97).map (fun i => (i.zero, i.size, i.bytes)) = some (some (.agg #[.int .i64 0, .int .i64 0]), 2, 16) := by kernel_rfl
theorem infoEnt : (Try.prog.info? 94).map (fun i => (i.zero, i.size, i.bytes)) = some (some (.agg #[.slice none 0 0, .int .u64 0, .int .u64 0, .int .u64 0, .int .u64 0, .int .u64 0, .int .u64 0, .int .u64 0, .int .u64 0, .int .i64 0]), 10, 96) := by kernel_rfl
theorem two_at (w : World) (x0 x1 : Value) (T : TypeId) (b : Nat) (hb : b = w.heap.size) : ∀ j u, [x0, x1][j]? = some u → (w.alloc (.cells #[x0, x1] T)).cell? ((⟨b, 0, none⟩ : Addr).add j) = some u := by
  subst hb
  intro j u h
  match j, h with
  | 0, h => simp at h; subst h; simp [Addr.add]
  | 1, h => simp at h; subst h; simp [Addr.add]
  | j + 2, h => simp at h
theorem two_one (a b : Int) : ∀ u ∈ [Value.int .i64 a, Value.int .i64 b], u.oneCell' = true := by
  intro u hu
  simp at hu
  rcases hu with rfl | rfl <;> rfl
theorem fitZ_len (cells : Int) (q : Nat → Nat → Int) (n : Nat) : (fitZ cells q n).length = n := by simp [fitZ]
theorem fitZ_succ (cells : Int) (q : Nat → Nat → Int) (n : Nat) : wrCells (fitZ cells q (n + 1)) = wrCells (fitZ cells q n) ++ [.int .i64 (pickZ (q n 0) cells), .int .i64 (q n 1)] := by
  unfold wrCells fitZ pickZ
  rw [List.range_succ, List.map_append, List.flatMap_append]
  rfl
set_option maxHeartbeats 1000000 in
set_option maxRecDepth 100000 in
theorem fit_any (a : Option Addr) (len cap : Nat) (q : Nat → Nat → Int) (n : Int) (h1 : 1 ≤ n) (h2 : n ≤ 1000000) (w : World) (hg : Grid w a len 2 q) (hl : len ≤ 9223372036854775807) :
    Calls Try.prog 27 #[.slice a len cap, .int .i64 n] w fun e w' => ∃ v, e = .returned v ∧ w'.ownsRow w.heap.size 97 2 v (min len 4) (wrCells (fitZ n q (min len 4))) ∧ Below w.heap.size w w' := by
  obtain ⟨i0, hi, hI0, hI1, hI2⟩ := info_parts infoWr
  have HG := Lib.hid hg
  have HP : Hid (∀ x w, Calls Try.prog 7 #[.int .i64 x, .int .i64 n] w fun e w' => e = .returned (.int .i64 (pickZ x n)) ∧ w = w') := fun x w => pick_any x n h1 h2 w
  clear hg h1 h2
  go_enter Try.func27, Try.ntmps27
  go_wp2_with fail
  go_loopw [5, 6] (fun v i wr => ∃ k : Nat, k ≤ len ∧ k ≤ 4 ∧ i = .int .i64 k ∧ w.heap.size ≤ wr.heap.size ∧ wr.ownsRow w.heap.size 97 2 v k (wrCells (fitZ n q k)) ∧ Hid (Below w.heap.size w wr)) (fun _ i _ => 4 - (intOf i).toNat)
  case atStart => exact ⟨0, by omega, by omega, rfl, by simp, World.ownsRow_nil _ _ _ _, Below.refl _ _⟩
  case round =>
    obtain ⟨k, hk, hk4, rfl, hsz, hown, HB⟩ := hrel
    by_cases hlt : k < len
    · by_cases hlt4 : k < 4
      · obtain ⟨b, off, rfl, hbw, hcell⟩ := HG.out.resolve_left (by omega)
        have c0 := (HB.out.cell (p := ⟨b, off + k * 2 + 0, none⟩) hbw).trans (hcell k hlt 0 (by omega))
        have c1 := (HB.out.cell (p := ⟨b, off + k * 2 + 1, none⟩) hbw).trans (hcell k hlt 1 (by omega))
        have HN := Lib.hid (fitZ_succ n q k)
        have HO := Lib.hid hown
        simp only [Nat.add_zero] at c0
        clear hcell hown
        generalize q k 0 = x0 at *
        generalize q k 1 = x1 at *
        go_wp2_with fail
        go_region_law (first | (go_simp; go_at_call 7; refine (HP.out _ _).mono ?_; rintro e w1 ⟨rfl, rfl⟩) | (refine step_append_lies _ (by rfl) (.tmp 17) (.tmp 31) 37 (by rfl) w.heap.size 97 i0 (.agg #[.int .i64 0, .int .i64 0]) 2 16 Try.underlying37 hi hI0 hI1 hI2 (by rfl) (by decide) _ _ _ (by rfl) (World.ownsRow.alloc (w := wr.drew) HO.out _) ⟨wr.heap.size, 0, none⟩ 1 1 [.int .i64 (pickZ x0 n), .int .i64 x1] (by rfl) (by rfl) (two_at wr.drew _ _ _ _ rfl) (two_one _ _) (by decide) (by unfold maxLen; omega) (by omega) (by simp; omega) _ rfl ?_; intro g2 c2 w2 hown2 hgrow hat hlt2))
        all_goals
          have HB2 : Hid (Below w.heap.size w w2) := HB.out.trans ((((Below.refl _ _).drew).alloc (by simp; omega) _).grown hgrow (by simp; omega) (fun j hj => (HO.out.lt j hj).1))
          have hz4 := HB2.out.size
          rw [← HN.out] at hown2
          have HO2 := Lib.hid hown2
          clear hown2 hgrow hat
          go_wp2_with fail
          go_roundw
          case rel => exact ⟨k + 1, by omega, by omega, by go_num, by omega, HO2.out, HB2.out⟩
          case measure => simp [intOf]; omega
      · obtain rfl : k = 4 := by omega
        have HO := Lib.hid hown
        clear hown
        go_wp2_with fail
        go_ret
        exact ⟨_, rfl, by rw [show min len 4 = 4 by omega]; exact HO.out, HB.out⟩
    · obtain rfl : k = len := by omega
      have HO := Lib.hid hown
      clear hown
      go_wp2_with fail
      go_ret
      exact ⟨_, rfl, by rw [show min k 4 = k by omega]; exact HO.out, HB.out⟩
end Go.Proofs.Ytojkeahffabifaa
