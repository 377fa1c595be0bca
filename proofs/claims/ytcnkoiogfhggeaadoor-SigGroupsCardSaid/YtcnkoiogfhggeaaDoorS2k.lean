/- Signatures as keys of a map. -/
import Derived.Test.YtcnkoiogfhggeaaDoorC2e
import Derived.Test.YtcnkoiogfhggeaaDoorS2h
import Derived.Maps.OwnSet
import Derived.Maps.Views
import Derived.DeepKeys4
namespace Go.Proofs.YtcnkoiogfhggeaaDoor
open Go.RowKit Go.ChangeShapes Go.WideShapes Go.WideMaps Go.WideElems
set_option linter.unusedVariables false
theorem laidOutK : laidOutB Tryd.prog = true := by kernel_rfl
theorem rowSig : (25 : TypeId) < Tryd.prog.types.size := of_decide_eq_true (by kernel_rfl)
theorem cellsSigK : Tryd.prog.cellsOf 25 = 8 := by kernel_rfl
theorem wideSig : (match Tryd.prog.underlying 25 with | some (.array _ _) | some (.struct _) => true | _ => false) = true := by rw [Tryd.underlying25]
theorem sig_law : Maps.Keyed Tryd.prog 25 := Maps.Keyed.of_law (deep_law_laid laidOutK (m := 2) (by omega) rowSig (by kernel_rfl) wideSig)
theorem key_u64 (m : Nat) (n : Int) (h0 : 0 ≤ n) (h1 : n < 18446744073709551616) : Tryd.prog.keyLits (m + 1) 23 [.int .u64 n] = some [.int .u64 n] := by
  have hw : (Lit.int .u64 n).wf = true := by
    have h2 : 0 ≤ n ∧ n ≤ 18446744073709551615 := by omega
    simpa [Lit.wf, IntKind.min, IntKind.max, IntKind.signed, IntKind.bits] using h2
  unfold Program.keyLits
  simp [Tryd.underlying23, hw]
theorem key_sig (s : Nat → Int) (hs : Wds s) : ∃ l, keyOf Tryd.prog 25 (.agg #[.int .u64 (s 0), .int .u64 (s 1), .int .u64 (s 2), .int .u64 (s 3), .int .u64 (s 4), .int .u64 (s 5), .int .u64 (s 6), .int .u64 (s 7)]) = some l := by
  have hf : ((.agg #[.int .u64 (s 0), .int .u64 (s 1), .int .u64 (s 2), .int .u64 (s 3), .int .u64 (s 4), .int .u64 (s 5), .int .u64 (s 6), .int .u64 (s 7)]) : Value).formed Tryd.prog 25 = true := by simp [Value.formed, Tryd.underlying25, cellsSigK]
  have hk : Tryd.prog.keyType 25 = true := by kernel_rfl
  obtain ⟨m, hm⟩ : ∃ m, Tryd.prog.types.size = m + 1 := ⟨Tryd.prog.types.size - 1, (Nat.sub_add_cancel (Nat.lt_of_le_of_lt (Nat.zero_le _) rowSig)).symm⟩
  have hl : Tryd.prog.keyLits (Tryd.prog.types.size + 1) 25 ((.agg #[.int .u64 (s 0), .int .u64 (s 1), .int .u64 (s 2), .int .u64 (s 3), .int .u64 (s 4), .int .u64 (s 5), .int .u64 (s 6), .int .u64 (s 7)]) : Value).cells.toList = some [.int .u64 (s 0), .int .u64 (s 1), .int .u64 (s 2), .int .u64 (s 3), .int .u64 (s 4), .int .u64 (s 5), .int .u64 (s 6), .int .u64 (s 7)] := by
    rw [hm]
    unfold Program.keyLits
    have hr : List.range 8 = [0, 1, 2, 3, 4, 5, 6, 7] := rfl
    have k := fun i => key_u64 m (s i) (hs i).1 (hs i).2
    simp [Tryd.underlying25, cellsSigK, cellsU64, Value.cells, hr, k]
  unfold keyOf
  rw [Tryd.underlying25]
  simp only [hk, hf, Bool.and_self, if_true, hl, Option.map_some]
  exact ⟨_, rfl⟩
noncomputable def keyS (s : Nat → Int) : Lit := (keyOf Tryd.prog 25 (.agg #[.int .u64 (s 0), .int .u64 (s 1), .int .u64 (s 2), .int .u64 (s 3), .int .u64 (s 4), .int .u64 (s 5), .int .u64 (s 6), .int .u64 (s 7)])).getD (.bool true)
theorem keyS_is (s : Nat → Int) (hs : Wds s) : keyOf Tryd.prog 25 (.agg #[.int .u64 (s 0), .int .u64 (s 1), .int .u64 (s 2), .int .u64 (s 3), .int .u64 (s 4), .int .u64 (s 5), .int .u64 (s 6), .int .u64 (s 7)]) = some (keyS s) := by
  obtain ⟨l, hl⟩ := key_sig s hs
  unfold keyS
  rw [hl]; rfl
theorem keyS_inj {s t : Nat → Int} (hs : Wds s) (ht : Wds t) (h : keyS s = keyS t) : ∀ i, i < 8 → s i = t i := by
  have h1 := keyS_is s hs
  rw [h] at h1
  have e := sig_law.inj h1 (keyS_is t ht)
  simp only [Value.agg.injEq, Array.mk.injEq, List.cons.injEq, Value.int.injEq, true_and, and_true] at e
  obtain ⟨e0, e1, e2, e3, e4, e5, e6, e7⟩ := e
  intro i hi
  match i, hi with
  | 0, _ => exact e0
  | 1, _ => exact e1
  | 2, _ => exact e2
  | 3, _ => exact e3
  | 4, _ => exact e4
  | 5, _ => exact e5
  | 6, _ => exact e6
  | 7, _ => exact e7
theorem keyS_eq {s t : Nat → Int} (h : ∀ i, i < 8 → s i = t i) : keyS s = keyS t := by
  unfold keyS
  rw [h 0 (by decide), h 1 (by decide), h 2 (by decide), h 3 (by decide), h 4 (by decide), h 5 (by decide), h 6 (by decide), h 7 (by decide)]
/-- Signatures of a list, held against each other by their places. -/
def sameQ (q : Nat → Nat → Int) (i j : Nat) : Bool := sigEq (q i) (q j)
theorem sameQ_key {q : Nat → Nat → Int} (hq : ∀ i, Wds (q i)) (i j : Nat) : sameQ q i j = true ↔ keyS (q i) = keyS (q j) :=
  (sigEq_iff _ _).trans ⟨keyS_eq, keyS_inj (hq i) (hq j)⟩
/-- The map holds, at the signature of each group's head, the group's place, and nothing else. -/
def MapOf (q : Nat → Nat → Int) (gs : List (List Nat)) (D : DataW Unit) : Prop :=
  (∀ (k : Nat) (g : List Nat), gs[k]? = some g → Maps.has D (keyS (q (g.headD 0))) = true ∧ D.atKey (keyS (q (g.headD 0))) (.lit (.int .i64 0)) = .lit (.int .i64 k)) ∧
  (∀ s, Wds s → Maps.has D (keyS s) = true → ∃ (k : Nat) (g : List Nat), gs[k]? = some g ∧ keyS s = keyS (q (g.headD 0)))
theorem mapOf_nil (q : Nat → Nat → Int) : MapOf q [] (.map []) :=
  ⟨fun k g h => by simp at h, fun s hs h => by simp [Maps.has] at h⟩
theorem headD_app (g : List Nat) (i : Nat) (h : g ≠ []) : (g ++ [i]).headD 0 = g.headD 0 := by
  cases g with
  | nil => exact absurd rfl h
  | cons a r => rfl
theorem mapOf_hit {q : Nat → Nat → Int} (hq : ∀ i, Wds (q i)) {gs : List (List Nat)} {D : DataW Unit} (h : MapOf q gs D) (hne : ∀ g ∈ gs, g ≠ []) (i : Nat) {c : Int} (hh : Maps.has D (keyS (q i)) = true) (hc : D.atKey (keyS (q i)) (.lit (.int .i64 0)) = .lit (.int .i64 c)) :
    ∃ (k : Nat) (g : List Nat), gs[k]? = some g ∧ c = k ∧ putG (sameQ q) i gs = gs.set k (g ++ [i]) ∧ MapOf q (putG (sameQ q) i gs) D := by
  obtain ⟨k, g, hk, hs⟩ := h.2 (q i) (hq i) hh
  have hat : ∀ (j : Nat) (g' : List Nat), gs[j]? = some g' → keyS (q i) = keyS (q (g'.headD 0)) → c = j := by
    intro j g' hj e
    have h1 := (h.1 j g' hj).2
    rw [← e, hc] at h1
    simpa using h1
  have hck := hat k g hk hs
  have hp : putG (sameQ q) i gs = gs.set k (g ++ [i]) := by
    refine putG_hit _ i gs k g hk ((sameQ_key hq _ _).2 hs.symm) (fun j h' hj hjh => ?_)
    cases hb : sameQ q (h'.headD 0) i
    · rfl
    · have := hat j h' hjh ((sameQ_key hq _ _).1 hb).symm
      omega
  refine ⟨k, g, hk, hck, hp, ?_⟩
  rw [hp]
  have hgne : g ≠ [] := hne g (List.mem_of_getElem? hk)
  have hlt := (List.getElem?_eq_some_iff.1 hk).1
  refine ⟨fun j g' hj => ?_, fun s hs' hh' => ?_⟩
  · rw [List.getElem?_set] at hj
    by_cases e : k = j
    · rw [if_pos e, if_pos (by omega)] at hj
      obtain rfl := Option.some.inj hj
      rw [headD_app g i hgne, ← e]
      exact h.1 k g hk
    · rw [if_neg e] at hj
      exact h.1 j g' hj
  · obtain ⟨j, g', hj, e⟩ := h.2 s hs' hh'
    by_cases ej : k = j
    · subst ej
      obtain rfl : g = g' := Option.some.inj (hk.symm.trans hj)
      exact ⟨k, g ++ [i], by rw [List.getElem?_set, if_pos rfl, if_pos hlt], by rw [headD_app g i hgne]; exact e⟩
    · exact ⟨j, g', by rw [List.getElem?_set, if_neg ej]; exact hj, e⟩
theorem mapOf_miss {q : Nat → Nat → Int} (hq : ∀ i, Wds (q i)) {gs : List (List Nat)} {D : DataW Unit} (hD : Maps.IsMap D) (h : MapOf q gs D) (i : Nat) (hh : Maps.has D (keyS (q i)) = false) :
    putG (sameQ q) i gs = gs ++ [[i]] ∧ MapOf q (gs ++ [[i]]) (D.put (keyS (q i)) (.lit (.int .i64 gs.length))) := by
  have hK : WideAt.IsKeyLit (keyS (q i)) := sig_law.key (keyS_is _ (hq i))
  have hno : ∀ (j : Nat) (g' : List Nat), gs[j]? = some g' → keyS (q (g'.headD 0)) ≠ keyS (q i) := by
    intro j g' hj e
    have h1 := (h.1 j g' hj).1
    rw [e, hh] at h1
    cases h1
  constructor
  · refine putG_miss _ i gs (fun g hg => ?_)
    obtain ⟨j, hj⟩ := List.getElem?_of_mem hg
    cases hb : sameQ q (g.headD 0) i
    · rfl
    · exact absurd ((sameQ_key hq _ _).1 hb) (hno j g hj)
  · refine ⟨fun j g' hj => ?_, fun s hs' hh' => ?_⟩
    · rcases Nat.lt_or_ge j gs.length with hlt | hge
      · rw [List.getElem?_append_left hlt] at hj
        have hn := hno j g' hj
        rw [Maps.has_put_other hn, Maps.atKey_put_other hn]
        exact h.1 j g' hj
      · rw [List.getElem?_append_right hge] at hj
        have e0 : j - gs.length = 0 := by
          rcases Nat.eq_zero_or_pos (j - gs.length) with e | e
          · exact e
          · rw [List.getElem?_eq_none (by simp; omega)] at hj; cases hj
        rw [e0] at hj
        simp at hj
        subst hj
        have ej : j = gs.length := by omega
        subst ej
        show Maps.has (D.put (keyS (q i)) _) (keyS (q i)) = true ∧ (D.put (keyS (q i)) _).atKey (keyS (q i)) _ = _
        exact ⟨Maps.has_put_same hD hK _, Maps.atKey_put_same hD hK _ _⟩
    · by_cases e : keyS s = keyS (q i)
      · exact ⟨gs.length, [i], by rw [List.getElem?_append_right (Nat.le_refl _)]; simp, e⟩
      · rw [Maps.has_put_other e] at hh'
        obtain ⟨j, g', hj, e2⟩ := h.2 s hs' hh'
        have hlt := (List.getElem?_eq_some_iff.1 hj).1
        exact ⟨j, g', by rw [List.getElem?_append_left hlt]; exact hj, e2⟩
end Go.Proofs.YtcnkoiogfhggeaaDoor
