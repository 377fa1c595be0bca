/- Plain: a table of cells and what they become, in an open hash table. No program in sight. -/
import Derived.Test.YtekmdekcncgkfaaS1
namespace Go.Proofs.Ytekmdekcncgkfaa
open Go.RowKit
/-- The width of a table of at most so many cells. -/
def widT (m : Nat) : Nat := if m ≤ 1 then 1 else if m ≤ 2 then 2 else if m ≤ 4 then 3 else if m ≤ 8 then 4 else if m ≤ 16 then 5 else 6
theorem widT_range (m : Nat) : 1 ≤ widT m ∧ widT m ≤ 6 := by
  unfold widT
  repeat' split
  all_goals omega
/-- How many slots. -/
def numT (m : Nat) : Nat := 2 ^ widT m
theorem numT_cases (m : Nat) : numT m = 2 ∨ numT m = 4 ∨ numT m = 8 ∨ numT m = 16 ∨ numT m = 32 ∨ numT m = 64 := by
  have h := widT_range m
  unfold numT
  rcases (show widT m = 1 ∨ widT m = 2 ∨ widT m = 3 ∨ widT m = 4 ∨ widT m = 5 ∨ widT m = 6 by omega) with h | h | h | h | h | h <;> rw [h] <;> simp
theorem numT_pos (m : Nat) : 2 ≤ numT m ∧ numT m ≤ 64 := by have := numT_cases m; omega
theorem numT_twice (m : Nat) (h : m ≤ 24) : 2 * m ≤ numT m := by
  unfold numT widT
  repeat' split
  all_goals first | omega | (simp; omega)
/-- The first slot of a cell. -/
def hashR (m : Nat) (c : Int) : Nat := (IntKind.u64.wrap (IntKind.u64.wrap c * 11400714819323198485) / 2 ^ (64 - widT m)).toNat
theorem hash_ex : ∃ f : Nat → Int → Nat, ∀ m c, f m c = hashR m c := ⟨hashR, fun _ _ => rfl⟩
/-- .. a name that nothing unfolds by itself. -/
noncomputable def hashT : Nat → Int → Nat := Classical.choose hash_ex
theorem hashT_def (m : Nat) (c : Int) : hashT m c = hashR m c := Classical.choose_spec hash_ex m c
theorem hash_val (m : Nat) (c : Int) : IntKind.u64.wrap (IntKind.u64.wrap c * 11400714819323198485) / 2 ^ (64 - widT m) = (hashT m c : Int) := by
  rw [hashT_def]
  unfold hashR
  have h := u64_wrap_range (IntKind.u64.wrap c * 11400714819323198485)
  have := Int.ediv_nonneg h.1 (show (0 : Int) ≤ 2 ^ (64 - widT m) from Int.le_of_lt (Int.pow_pos (by decide)))
  omega
theorem hashT_lt (m : Nat) (c : Int) : hashT m c < numT m := by
  have hv := hash_val m c
  have h := u64_wrap_range (IntKind.u64.wrap c * 11400714819323198485)
  generalize IntKind.u64.wrap (IntKind.u64.wrap c * 11400714819323198485) = x at *
  have hw := widT_range m
  unfold numT
  rcases (show widT m = 1 ∨ widT m = 2 ∨ widT m = 3 ∨ widT m = 4 ∨ widT m = 5 ∨ widT m = 6 by omega) with e | e | e | e | e | e <;> rw [e] at hv ⊢ <;> simp at hv ⊢ <;> omega

structure TS where
  most : Nat
  sl : List Int
  rows : List (Int × Int)

def slotAt (sl : List Int) (k : Nat) : Int := sl.getD k 0
def cellAt (rows : List (Int × Int)) (i : Nat) : Int := (rows.getD i (0, 0)).1
def valAt (rows : List (Int × Int)) (i : Nat) : Int := (rows.getD i (0, 0)).2

structure Inv (st : TS) : Prop where
  m1 : 1 ≤ st.most
  m2 : st.most ≤ 24
  len : st.sl.length = numT st.most
  full : st.rows.length ≤ st.most
  rng : ∀ k, k < numT st.most → slotAt st.sl k = -1 ∨ (0 ≤ slotAt st.sl k ∧ slotAt st.sl k < st.rows.length)
  cells : ∀ i, i < st.rows.length → 0 ≤ cellAt st.rows i ∧ cellAt st.rows i < 1024
  dist : ∀ i j, i < st.rows.length → j < st.rows.length → cellAt st.rows i = cellAt st.rows j → i = j
  way : ∀ i, i < st.rows.length → ∃ d, d < numT st.most ∧ slotAt st.sl ((hashT st.most (cellAt st.rows i) + d) % numT st.most) = i ∧ ∀ e, e < d → slotAt st.sl ((hashT st.most (cellAt st.rows i) + e) % numT st.most) ≠ -1
  cnt : st.sl.count (-1) + st.rows.length = numT st.most

def newT (m : Nat) : TS := ⟨m, List.replicate (numT m) (-1), []⟩
theorem slotAt_replicate (n k : Nat) (h : k < n) : slotAt (List.replicate n (-1)) k = -1 := by
  unfold slotAt
  rw [List.getD_eq_getElem?_getD, List.getElem?_replicate, if_pos h]; rfl
theorem newT_inv (m : Nat) (h1 : 1 ≤ m) (h2 : m ≤ 24) : Inv (newT m) where
  m1 := h1
  m2 := h2
  len := by simp [newT]
  full := by simp [newT]
  rng := fun k hk => .inl (slotAt_replicate _ _ hk)
  cells := fun i hi => by simp [newT] at hi
  dist := fun i j hi => by simp [newT] at hi
  way := fun i hi => by simp [newT] at hi
  cnt := by simp [newT]

/-! ### the way to the first slot that has nothing -/
def distF (sl : List Int) (n k : Nat) : Nat := ((List.range n).find? fun d => slotAt sl ((k + d) % n) == -1).getD 0
def freeAt (sl : List Int) (n k : Nat) : Nat := (k + distF sl n k) % n
theorem distF_spec {sl : List Int} {n k : Nat} (h : ∃ d, d < n ∧ slotAt sl ((k + d) % n) = -1) :
    distF sl n k < n ∧ slotAt sl ((k + distF sl n k) % n) = -1 ∧ ∀ e, e < distF sl n k → slotAt sl ((k + e) % n) ≠ -1 := by
  unfold distF
  cases hf : (List.range n).find? fun d => slotAt sl ((k + d) % n) == -1 with
  | none =>
    exfalso
    obtain ⟨d, hd, e⟩ := h
    rw [List.find?_range_eq_none] at hf
    have := hf d hd
    simp [e] at this
  | some d =>
    rw [List.find?_range_eq_some] at hf
    obtain ⟨h1, h2, h3⟩ := hf
    simp only [Option.getD_some]
    refine ⟨by simpa using h2, by simpa using h1, fun e he => ?_⟩
    have := h3 e he
    simpa using this
theorem mod_shift (k d n : Nat) : ((k + 1) % n + d) % n = (k + (d + 1)) % n := by
  rw [Nat.add_mod, Nat.mod_mod, ← Nat.add_mod]
  congr 1
  omega
theorem distF_unique {sl : List Int} {n k d : Nat} (hd : d < n) (h1 : slotAt sl ((k + d) % n) = -1) (h2 : ∀ e, e < d → slotAt sl ((k + e) % n) ≠ -1) : distF sl n k = d := by
  obtain ⟨g1, g2, g3⟩ := distF_spec ⟨d, hd, h1⟩
  rcases Nat.lt_trichotomy (distF sl n k) d with h | h | h
  · exact absurd g2 (h2 _ h)
  · exact h
  · exact absurd h1 (g3 _ h)
theorem distF_step {sl : List Int} {n k : Nat} (hk : k < n) (h : ∃ d, d < n ∧ slotAt sl ((k + d) % n) = -1) (hne : slotAt sl k ≠ -1) :
    distF sl n k = distF sl n ((k + 1) % n) + 1 ∧ freeAt sl n k = freeAt sl n ((k + 1) % n) := by
  obtain ⟨g1, g2, g3⟩ := distF_spec h
  have h0 : distF sl n k ≠ 0 := by
    intro e
    rw [e, Nat.add_zero, Nat.mod_eq_of_lt hk] at g2
    exact hne g2
  obtain ⟨d, hd⟩ : ∃ d, distF sl n k = d + 1 := ⟨distF sl n k - 1, by omega⟩
  rw [hd] at g1 g2 g3
  have e : distF sl n ((k + 1) % n) = d := by
    refine distF_unique (by omega) ?_ fun e he => ?_
    · rw [mod_shift]; exact g2
    · rw [mod_shift]; exact g3 (e + 1) (by omega)
  refine ⟨by rw [hd, e], ?_⟩
  unfold freeAt
  rw [hd, e, mod_shift]
theorem distF_here {sl : List Int} {n k : Nat} (hk : k < n) (h : slotAt sl k = -1) : distF sl n k = 0 ∧ freeAt sl n k = k := by
  have e : distF sl n k = 0 := distF_unique (by omega) (by rw [Nat.add_zero, Nat.mod_eq_of_lt hk]; exact h) (fun e he => by omega)
  refine ⟨e, ?_⟩
  unfold freeAt
  rw [e, Nat.add_zero, Nat.mod_eq_of_lt hk]
theorem Inv.free {st : TS} (h : Inv st) (k : Nat) (hk : k < numT st.most) : ∃ d, d < numT st.most ∧ slotAt st.sl ((k + d) % numT st.most) = -1 := by
  have h1 := h.cnt
  have h2 := h.full
  have h3 := numT_twice st.most h.m2
  have h4 := h.m1
  have hp : 0 < st.sl.count (-1) := by omega
  obtain ⟨i, hi, e⟩ := List.getElem_of_mem (List.count_pos_iff.1 hp)
  rw [h.len] at hi
  refine ⟨(i + numT st.most - k) % numT st.most, Nat.mod_lt _ (by omega), ?_⟩
  have e2 : (k + (i + numT st.most - k) % numT st.most) % numT st.most = i := by
    rw [Nat.add_mod, Nat.mod_mod, ← Nat.add_mod, show k + (i + numT st.most - k) = i + numT st.most by omega, Nat.add_mod_right]
    exact Nat.mod_eq_of_lt hi
  rw [e2]
  unfold slotAt
  rw [List.getD_eq_getElem?_getD, List.getElem?_eq_getElem (by rw [h.len]; exact hi), e]; rfl
theorem freeAt_lt {sl : List Int} {n k : Nat} (h : 0 < n) : freeAt sl n k < n := Nat.mod_lt _ h

/-! ### a cell's row -/
def rowOf (rows : List (Int × Int)) (c : Int) : Option Nat := (List.range rows.length).find? fun i => cellAt rows i == c
theorem rowOf_some {rows : List (Int × Int)} {c : Int} {i : Nat} (h : rowOf rows c = some i) : i < rows.length ∧ cellAt rows i = c ∧ ∀ j, j < i → cellAt rows j ≠ c := by
  unfold rowOf at h
  rw [List.find?_range_eq_some] at h
  obtain ⟨h1, h2, h3⟩ := h
  refine ⟨by simpa using h2, by simpa using h1, fun j hj => ?_⟩
  have := h3 j hj
  simpa using this
theorem rowOf_none {rows : List (Int × Int)} {c : Int} (h : rowOf rows c = none) : ∀ j, j < rows.length → cellAt rows j ≠ c := by
  unfold rowOf at h
  rw [List.find?_range_eq_none] at h
  intro j hj
  have := h j hj
  simpa using this
theorem rowOf_of {rows : List (Int × Int)} {c : Int} {i : Nat} (hi : i < rows.length) (h1 : cellAt rows i = c) (h2 : ∀ j, j < i → cellAt rows j ≠ c) : rowOf rows c = some i := by
  cases h : rowOf rows c with
  | none => exact absurd h1 (rowOf_none h i hi)
  | some j =>
    obtain ⟨g1, g2, g3⟩ := rowOf_some h
    rcases Nat.lt_trichotomy i j with e | e | e
    · exact absurd h1 (g3 _ e)
    · rw [e]
    · exact absurd g2 (h2 _ e)
theorem rowOf_isNone {rows : List (Int × Int)} {c : Int} (h : ∀ j, j < rows.length → cellAt rows j ≠ c) : rowOf rows c = none := by
  cases h' : rowOf rows c with
  | none => rfl
  | some j => exact absurd (rowOf_some h').2.1 (h j (rowOf_some h').1)

/-! ### the program's way -/
def probe (st : TS) (c : Int) : Nat → Nat → Nat × Bool
  | 0, k => (k, false)
  | f + 1, k => if slotAt st.sl k = -1 then (k, false) else if cellAt st.rows (slotAt st.sl k).toNat = c then (k, true) else probe st c f ((k + 1) % numT st.most)
noncomputable def findT (st : TS) (c : Int) : Nat × Bool := probe st c (numT st.most) (hashT st.most c)
theorem probe_lt (st : TS) (c : Int) : ∀ (f k : Nat), k < numT st.most → (probe st c f k).1 < numT st.most
  | 0, k, h => h
  | f + 1, k, h => by
    unfold probe
    split
    · exact h
    · split
      · exact h
      · exact probe_lt st c f _ (Nat.mod_lt _ (by omega))
theorem probe_absent {st : TS} {c : Int} (hI : Inv st) (hr : rowOf st.rows c = none) : ∀ (d f k : Nat), distF st.sl (numT st.most) k = d → d < f → k < numT st.most → probe st c f k = (freeAt st.sl (numT st.most) k, false)
  | d, 0, k, _, h, _ => by omega
  | d, f + 1, k, hd, h, hk => by
    unfold probe
    by_cases hs : slotAt st.sl k = -1
    · rw [if_pos hs, (distF_here hk hs).2]
    · have hrng := (hI.rng k hk).resolve_left hs
      have hc := rowOf_none hr (slotAt st.sl k).toNat (by omega)
      obtain ⟨e1, e2⟩ := distF_step hk (hI.free k hk) hs
      rw [if_neg hs, if_neg hc, e2]
      exact probe_absent hI hr (d - 1) f _ (by omega) (by omega) (Nat.mod_lt _ (by omega))
theorem find_absent {st : TS} {c : Int} (hI : Inv st) (hr : rowOf st.rows c = none) : findT st c = (freeAt st.sl (numT st.most) (hashT st.most c), false) := by
  have hk := hashT_lt st.most c
  exact probe_absent hI hr _ _ _ rfl (distF_spec (hI.free _ hk)).1 hk
theorem probe_there {st : TS} {c : Int} {i : Nat} (hI : Inv st) (hr : rowOf st.rows c = some i) : ∀ (d f k : Nat), d < f → k < numT st.most → slotAt st.sl ((k + d) % numT st.most) = i → (∀ e, e < d → slotAt st.sl ((k + e) % numT st.most) ≠ -1) →
    ∃ k', probe st c f k = (k', true) ∧ k' < numT st.most ∧ slotAt st.sl k' = i
  | d, 0, k, h, _, _, _ => by omega
  | d, f + 1, k, h, hk, h1, h2 => by
    obtain ⟨g1, g2, g3⟩ := rowOf_some hr
    have hs : slotAt st.sl k ≠ -1 := by
      rcases Nat.eq_zero_or_pos d with h0 | h0
      · subst h0
        rw [Nat.add_zero, Nat.mod_eq_of_lt hk] at h1
        omega
      · have := h2 0 h0
        rwa [Nat.add_zero, Nat.mod_eq_of_lt hk] at this
    have hrng := (hI.rng k hk).resolve_left hs
    unfold probe
    rw [if_neg hs]
    by_cases hc : cellAt st.rows (slotAt st.sl k).toNat = c
    · rw [if_pos hc]
      have := hI.dist _ _ (by omega) g1 (hc.trans g2.symm)
      exact ⟨k, rfl, hk, by omega⟩
    · rw [if_neg hc]
      have hd : d ≠ 0 := by
        intro h0
        subst h0
        rw [Nat.add_zero, Nat.mod_eq_of_lt hk] at h1
        rw [h1] at hc
        exact hc g2
      obtain ⟨d', rfl⟩ : ∃ d', d = d' + 1 := ⟨d - 1, by omega⟩
      exact probe_there hI hr d' f _ (by omega) (Nat.mod_lt _ (by omega)) (by rw [mod_shift]; exact h1) (fun e he => by rw [mod_shift]; exact h2 (e + 1) (by omega))
theorem find_there {st : TS} {c : Int} {i : Nat} (hI : Inv st) (hr : rowOf st.rows c = some i) : ∃ k, findT st c = (k, true) ∧ k < numT st.most ∧ slotAt st.sl k = i := by
  obtain ⟨g1, g2, _⟩ := rowOf_some hr
  obtain ⟨d, h1, h2, h3⟩ := hI.way i g1
  rw [g2] at h2 h3
  exact probe_there hI hr d _ _ h1 (hashT_lt _ _) h2 h3

/-! ### what the operations do -/
def setV (rows : List (Int × Int)) (i : Nat) (v : Int) : List (Int × Int) := rows.set i (cellAt rows i, v)
noncomputable def putT (st : TS) (c v : Int) : TS :=
  if c < 0 ∨ 1024 ≤ c then st else
    match rowOf st.rows c with
    | some i => { st with rows := setV st.rows i v }
    | none => if st.rows.length < st.most then { st with sl := st.sl.set (freeAt st.sl (numT st.most) (hashT st.most c)) st.rows.length, rows := st.rows ++ [(c, v)] } else st
noncomputable def putE (st : TS) (c : Int) : Int :=
  if c < 0 ∨ 1024 ≤ c then 1 else
    match rowOf st.rows c with
    | some _ => 0
    | none => if st.rows.length < st.most then 0 else 2
def getV (st : TS) (c : Int) : Int := match rowOf st.rows c with | some i => valAt st.rows i | none => 0
def getB (st : TS) (c : Int) : Bool := (rowOf st.rows c).isSome
def slotsC (st : TS) : List Int := st.sl.map fun i => if i = -1 then -1 else cellAt st.rows i.toNat
theorem slotAt_set (sl : List Int) (k j : Nat) (x : Int) (hk : k < sl.length) : slotAt (sl.set k x) j = if j = k then x else slotAt sl j := by
  unfold slotAt
  simp only [List.getD_eq_getElem?_getD, List.getElem?_set]
  by_cases h : k = j
  · subst h; simp [hk]
  · rw [if_neg h, if_neg (fun e => h e.symm)]
theorem cellAt_setV (rows : List (Int × Int)) (i : Nat) (v : Int) (j : Nat) (hi : i < rows.length) : cellAt (setV rows i v) j = cellAt rows j := by
  unfold setV cellAt
  simp only [List.getD_eq_getElem?_getD, List.getElem?_set]
  by_cases h : i = j
  · subst h; simp [hi]
  · rw [if_neg h]
theorem setV_length (rows : List (Int × Int)) (i : Nat) (v : Int) : (setV rows i v).length = rows.length := by simp [setV]
theorem cellAt_app (rows : List (Int × Int)) (c v : Int) (j : Nat) : cellAt (rows ++ [(c, v)]) j = if j < rows.length then cellAt rows j else if j = rows.length then c else 0 := by
  unfold cellAt
  simp only [List.getD_eq_getElem?_getD]
  by_cases h : j < rows.length
  · rw [if_pos h, List.getElem?_append_left h]
  · rw [if_neg h, List.getElem?_append_right (by omega)]
    by_cases h2 : j = rows.length
    · subst h2; simp
    · rw [if_neg h2, List.getElem?_eq_none (by simp; omega)]; rfl
theorem count_set_free {sl : List Int} {k : Nat} {x : Int} (hk : k < sl.length) (h : slotAt sl k = -1) (hx : x ≠ -1) : (sl.set k x).count (-1) + 1 = sl.count (-1) := by
  have e : sl[k] = -1 := by
    unfold slotAt at h
    rw [List.getD_eq_getElem?_getD, List.getElem?_eq_getElem hk] at h
    exact h
  have hp : 0 < sl.count (-1) := List.count_pos_iff.2 (by rw [← e]; exact List.getElem_mem hk)
  rw [List.count_set (h := hk), e]
  have h2 : (x == -1) = false := by simpa using hx
  rw [h2]
  simp
  omega
theorem putT_inv {st : TS} (hI : Inv st) (c v : Int) : Inv (putT st c v) := by
  unfold putT
  split
  · exact hI
  · rename_i hc
    split
    · rename_i i hr
      obtain ⟨g1, g2, g3⟩ := rowOf_some hr
      refine ⟨hI.m1, hI.m2, hI.len, by rw [setV_length]; exact hI.full, fun k hk => by rw [setV_length]; exact hI.rng k hk, fun j hj => ?_, fun a b ha hb e => ?_, fun j hj => ?_, by rw [setV_length]; exact hI.cnt⟩
      · rw [setV_length] at hj
        rw [cellAt_setV _ _ _ _ g1]
        exact hI.cells j hj
      · rw [setV_length] at ha hb
        rw [cellAt_setV _ _ _ _ g1, cellAt_setV _ _ _ _ g1] at e
        exact hI.dist a b ha hb e
      · rw [setV_length] at hj
        rw [cellAt_setV _ _ _ _ g1]
        exact hI.way j hj
    · rename_i hr
      split
      · rename_i hlt
        have hk := hashT_lt st.most c
        obtain ⟨f1, f2, f3⟩ := distF_spec (hI.free _ hk)
        have hN := numT_pos st.most
        have hfl : freeAt st.sl (numT st.most) (hashT st.most c) < numT st.most := freeAt_lt (by omega)
        have hf2 : slotAt st.sl (freeAt st.sl (numT st.most) (hashT st.most c)) = -1 := f2
        generalize hF : freeAt st.sl (numT st.most) (hashT st.most c) = F at *
        have hset : ∀ j, slotAt (st.sl.set F st.rows.length) j = if j = F then (st.rows.length : Int) else slotAt st.sl j := fun j => slotAt_set _ _ _ _ (by rw [hI.len]; exact hfl)
        refine ⟨hI.m1, hI.m2, by simpa using hI.len, by simp; omega, fun k hk => ?_, fun j hj => ?_, fun a b ha hb e => ?_, fun j hj => ?_, ?_⟩
        · simp only [hset, List.length_append, List.length_singleton]
          split
          · right; omega
          · have := hI.rng k hk; omega
        · simp only [List.length_append, List.length_singleton] at hj
          rw [cellAt_app]
          split
          · exact hI.cells j (by assumption)
          · rw [if_pos (by omega)]; omega
        · simp only [List.length_append, List.length_singleton] at ha hb
          rw [cellAt_app, cellAt_app] at e
          have hn := rowOf_none hr
          by_cases h1 : a < st.rows.length
          · by_cases h2 : b < st.rows.length
            · rw [if_pos h1, if_pos h2] at e
              exact hI.dist a b h1 h2 e
            · rw [if_pos h1, if_neg h2, if_pos (by omega)] at e
              exact absurd e (hn a h1)
          · by_cases h2 : b < st.rows.length
            · rw [if_neg h1, if_pos (by omega), if_pos h2] at e
              exact absurd e.symm (hn b h2)
            · omega
        · simp only [List.length_append, List.length_singleton] at hj
          simp only [cellAt_app, hset]
          by_cases h1 : j < st.rows.length
          · rw [if_pos h1]
            obtain ⟨d, w1, w2, w3⟩ := hI.way j h1
            refine ⟨d, w1, ?_, fun e he => ?_⟩
            · rw [if_neg]
              · exact w2
              · intro e
                rw [e, hf2] at w2
                omega
            · split
              · omega
              · exact w3 e he
          · rw [if_neg h1, if_pos (by omega)]
            refine ⟨distF st.sl (numT st.most) (hashT st.most c), f1, ?_, fun e he => ?_⟩
            · rw [if_pos (show (hashT st.most c + distF st.sl (numT st.most) (hashT st.most c)) % numT st.most = F from hF)]
              omega
            · split
              · omega
              · exact f3 e he
        · simp only [List.length_append, List.length_singleton]
          have := count_set_free (x := (st.rows.length : Int)) (by rw [hI.len]; exact hfl) hf2 (by omega)
          have h2 := hI.cnt
          omega
      · exact hI
theorem putT_most (st : TS) (c v : Int) : (putT st c v).most = st.most := by
  unfold putT
  split
  · rfl
  · split
    · rfl
    · split <;> rfl
end Go.Proofs.Ytekmdekcncgkfaa
