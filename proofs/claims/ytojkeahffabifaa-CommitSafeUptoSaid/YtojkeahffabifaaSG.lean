/- Plain: a ring that grows. -/
import Derived.Test.YtojkeahffabifaaS3b
import Derived.Test.YtojkeahffabifaaS2
namespace Go.Proofs.Ytojkeahffabifaa
open Go.RowKit
/-- An entry: its writes, its signature, how many are written back. -/
structure Ent where
  ws : List (Int × Int)
  sg : Nat → Int
  bk : Nat
/-- A ring. -/
structure GS where
  es : List Ent
  laid : Nat
  done : Nat
/-- The signature of the cells that are written. -/
noncomputable def sigW (ws : List (Int × Int)) : Nat → Int := ws.foldl (fun s r => withS s r.1) noS
/-- The writes that fit. -/
def fitZ (cells : Int) (q : Nat → Nat → Int) (n : Nat) : List (Int × Int) := (List.range n).map fun i => (q i 0 % cells, q i 1)
/-- The stores of an entry's signature, the words below j. -/
def sigSt (k : Int) (sg : Nat → Int) (j : Nat) : List Acc := (List.range j).map fun (i : Nat) => stAcc (-1) 3 k i (wrap64 (sg i))
/-- The first entry that isn't laid is. -/
def layG (size : Nat) (g : GS) (l : List Acc) : GS × List Acc :=
  match g.es[g.laid]? with
  | none => (g, l)
  | some e => (⟨g.es, g.laid + 1, g.done⟩, l ++ sigSt (((g.laid + 1) % size : Nat) : Int) e.sg 8 ++ [stAcc (-1) 2 (((g.laid + 1) % size : Nat) : Int) 0 (2 * ((g.laid + 1 : Nat) : Int))])
/-- A cell is written back. -/
def backG (g : GS) (l : List Acc) : GS × List Acc :=
  if g.done < g.laid then
    match g.es[g.done]? with
    | none => (g, l)
    | some e => match e.ws[e.bk]? with
      | none => (g, l)
      | some r => (⟨g.es.set g.done ⟨e.ws, e.sg, e.bk + 1⟩, g.laid, g.done⟩, l ++ [stAcc (-1) 4 r.1 0 r.2])
  else (g, l)
/-- An entry gets complete. -/
def endG (size : Nat) (g : GS) (l : List Acc) : GS × List Acc :=
  if g.done < g.laid then
    match g.es[g.done]? with
    | none => (g, l)
    | some e => if e.bk = e.ws.length then (⟨g.es, g.laid, g.done + 1⟩, l ++ [stAcc (-1) 2 (((g.done + 1) % size : Nat) : Int) 0 (2 * ((g.done + 1 : Nat) : Int) + 1)]) else (g, l)
  else (g, l)
/-- An entry is published. -/
noncomputable def pubG (size cells : Nat) (g : GS) (l : List Acc) (ws : List (Int × Int)) : GS × List Acc :=
  if (g.es.length : Int) - g.done < size ∧ 0 < cells then (⟨g.es ++ [⟨ws, sigW ws, 0⟩], g.laid, g.done⟩, l ++ [stAcc (-1) 1 0 0 ((g.es.length + 1 : Nat) : Int)]) else (g, l)
/-- All that can be done of the first one that isn't complete. -/
def allG (size : Nat) (g : GS) (l : List Acc) : GS × List Acc :=
  let a := if g.done = g.laid then layG size g l else (g, l)
  if a.1.done < a.1.laid then
    let b := backG a.1 a.2
    let c := backG b.1 b.2
    let d := backG c.1 c.2
    let e := backG d.1 d.2
    endG size e.1 e.2
  else a
noncomputable def actG (size cells : Nat) (g : GS) (l : List Acc) (kind : Int) (ws : List (Int × Int)) : GS × List Acc :=
  if kind % 5 = 0 then pubG size cells g l ws else if kind % 5 = 1 then layG size g l else if kind % 5 = 2 then backG g l else if kind % 5 = 3 then endG size g l else allG size g l
end Go.Proofs.Ytojkeahffabifaa
namespace Go.Proofs.Ytojkeahffabifaa
open Go.RowKit
set_option linter.unusedVariables false
theorem mod_ne {s n size : Nat} (h1 : s < n) (h2 : n < s + size) : s % size ≠ n % size := by
  intro h
  have hz : (n - s) % size = 0 := Nat.sub_mod_eq_zero_of_mod_eq h.symm
  rw [Nat.mod_eq_of_lt (by omega)] at hz
  omega
theorem wordOf_sigSt (l : List Acc) (k : Int) (sg : Nat → Int) : ∀ (j : Nat) (a b c : Int), wordOf (l ++ sigSt k sg j) a b c = if a = 3 ∧ b = k ∧ 0 ≤ c ∧ c < j then wrap64 (sg c.toNat) else wordOf l a b c
  | 0, a, b, c => by
    rw [if_neg (by omega)]
    simp [sigSt]
  | j + 1, a, b, c => by
    have e : sigSt k sg (j + 1) = sigSt k sg j ++ [stAcc (-1) 3 k j (wrap64 (sg j))] := by simp [sigSt, List.range_succ]
    rw [e, ← List.append_assoc, wordOf_st]
    unfold upd
    by_cases h : a = 3 ∧ b = k ∧ c = (j : Int)
    · obtain ⟨rfl, rfl, rfl⟩ := h
      rw [if_pos ⟨rfl, rfl, rfl⟩, if_pos ⟨rfl, rfl, by omega, by omega⟩]
      simp
    · rw [if_neg h, wordOf_sigSt l k sg j a b c]
      by_cases h2 : a = 3 ∧ b = k ∧ 0 ≤ c ∧ c < j
      · rw [if_pos h2, if_pos ⟨h2.1, h2.2.1, h2.2.2.1, by omega⟩]
      · rw [if_neg h2, if_neg]
        rintro ⟨h3, h4, h5, h6⟩
        by_cases h7 : c = (j : Int)
        · exact h ⟨h3, h4, h7⟩
        · exact h2 ⟨h3, h4, h5, by omega⟩
theorem sigSt_len (k : Int) (sg : Nat → Int) (j : Nat) : (sigSt k sg j).length = j := by simp [sigSt]
/-- What a list of writes makes of a cell. -/
def valW (ws : List (Int × Int)) (c v : Int) : Int := ws.foldl (fun v r => if r.1 = c then r.2 else v) v
/-- What the first n entries make of a cell. -/
def valN (es : List Ent) (n : Nat) (c : Int) : Int := (es.take n).foldl (fun v e => valW e.ws c v) 0
/-- What a cell is by now. -/
def cellV (es : List Ent) (done : Nat) (c : Int) : Int :=
  match es[done]? with
  | none => valN es done c
  | some e => valW (e.ws.take e.bk) c (valN es done c)
/-- The entries are those, and more. -/
def Ext (es es' : List Ent) : Prop := es.length ≤ es'.length ∧ ∀ (i : Nat) (e : Ent), es[i]? = some e → ∃ e' : Ent, es'[i]? = some e' ∧ e'.ws = e.ws ∧ e'.sg = e.sg
theorem Ext.refl (es : List Ent) : Ext es es := ⟨Nat.le_refl _, fun _ e h => ⟨e, h, rfl, rfl⟩⟩
theorem Ext.trans {a b c : List Ent} (h : Ext a b) (k : Ext b c) : Ext a c := ⟨Nat.le_trans h.1 k.1, fun i e he => by
  obtain ⟨e1, h1, h2, h3⟩ := h.2 i e he
  obtain ⟨e2, k1, k2, k3⟩ := k.2 i e1 h1
  exact ⟨e2, k1, k2.trans h2, k3.trans h3⟩⟩
theorem Ext.app (es x : List Ent) : Ext es (es ++ x) := ⟨by simp, fun i e h => ⟨e, by rw [List.getElem?_append_left (List.getElem?_eq_some_iff.1 h).1]; exact h, rfl, rfl⟩⟩
theorem Ext.set {es : List Ent} {i : Nat} {e : Ent} (h : es[i]? = some e) (bk : Nat) : Ext es (es.set i ⟨e.ws, e.sg, bk⟩) := ⟨by simp, fun j e' h' => by
  by_cases hj : i = j
  · subst hj
    rw [h] at h'
    obtain rfl := Option.some.inj h'
    exact ⟨⟨e.ws, e.sg, bk⟩, by rw [List.getElem?_set, if_pos rfl, if_pos (List.getElem?_eq_some_iff.1 h).1], rfl, rfl⟩
  · exact ⟨e', by rw [List.getElem?_set, if_neg hj]; exact h', rfl, rfl⟩⟩
/-- A ring beside its memory. -/
structure GInv (size cells : Nat) (g : GS) (l : List Acc) : Prop where
  newest : wordOf l 1 0 0 = g.es.length
  head1 : ∀ s : Nat, 1 ≤ s → s ≤ g.laid → g.laid < s + size → wordOf l 2 ((s % size : Nat) : Int) 0 = 2 * s + (if s ≤ g.done then 1 else 0)
  head0 : ∀ s : Nat, g.laid < s → s ≤ size → wordOf l 2 ((s % size : Nat) : Int) 0 = 1
  sig1 : ∀ (s : Nat) (e : Ent), s + 1 ≤ g.laid → g.laid < s + 1 + size → g.es[s]? = some e → ∀ j : Nat, j < 8 → wordOf l 3 (((s + 1) % size : Nat) : Int) j = wrap64 (e.sg j)
  cell : ∀ c : Int, wordOf l 4 c 0 = cellV g.es g.done c
  dl : g.done ≤ g.laid
  ll : g.laid ≤ g.es.length
  cap : g.es.length ≤ g.done + size
  ent : ∀ (i : Nat) (e : Ent), g.es[i]? = some e → e.sg = sigW e.ws ∧ e.bk ≤ e.ws.length ∧ (g.done < i → e.bk = 0) ∧ (g.laid ≤ i → e.bk = 0) ∧ ∀ r ∈ e.ws, (0 ≤ r.1 ∧ r.1 < (cells : Int)) ∧ I64 r.2
  okw : OkW l
  big : g.es.length ≤ 100000000
theorem sigW_wds (ws : List (Int × Int)) : Wds (sigW ws) := by
  unfold sigW
  have : ∀ (ws : List (Int × Int)) (s : Nat → Int), Wds s → Wds (ws.foldl (fun s r => withS s r.1) s) := by
    intro ws
    induction ws with
    | nil => intro s h; exact h
    | cons a r ih => intro s h; exact ih _ (withS_wds h _)
  exact this ws noS noS_wds
theorem upd_ne {wd : Int → Int → Int → Int} {k i j v a b c : Int} (h : ¬ (a = k ∧ b = i ∧ c = j)) : upd wd k i j v a b c = wd a b c := if_neg h
theorem upd_eq (wd : Int → Int → Int → Int) (k i j v : Int) : upd wd k i j v k i j = v := if_pos ⟨rfl, rfl, rfl⟩
/-- What an act leaves. -/
structure GStep (size cells : Nat) (g : GS) (l : List Acc) (g' : GS) (l' : List Acc) : Prop where
  inv : GInv size cells g' l'
  ext : Ext g.es g'.es
  done : g.done ≤ g'.done
  laid : g.laid ≤ g'.laid
  len : l'.length ≤ l.length + 14
  one : g'.es.length ≤ g.es.length + 1
theorem valN_app (es x : List Ent) (n : Nat) (h : n ≤ es.length) (c : Int) : valN (es ++ x) n c = valN es n c := by
  unfold valN
  rw [List.take_append_of_le_length h]
theorem pubG_inv {size cells : Nat} {g : GS} {l : List Acc} (h : GInv size cells g l) (hs : 1 ≤ size) (ws : List (Int × Int)) (hw : ∀ r ∈ ws, (0 ≤ r.1 ∧ r.1 < (cells : Int)) ∧ I64 r.2) (hb : g.es.length < 100000000) : GStep size cells g l (pubG size cells g l ws).1 (pubG size cells g l ws).2 := by
  unfold pubG
  split
  · rename_i hc
    have hd := h.dl
    have hl := h.ll
    refine ⟨⟨?_, ?_, ?_, ?_, ?_, h.dl, by simp only [List.length_append, List.length_cons, List.length_nil]; omega, by simp only [List.length_append, List.length_cons, List.length_nil]; omega, ?_, okW_st h.okw _ _ _ _ _ ⟨by omega, by omega⟩, by simp only [List.length_append, List.length_cons, List.length_nil]; omega⟩, Ext.app _ _, Nat.le_refl _, Nat.le_refl _, by simp, by simp⟩
    · simp only
      rw [wordOf_st, upd_eq]; simp
    · intro s h1 h2 h3
      simp only
      rw [wordOf_st, upd_ne (by omega)]
      exact h.head1 s h1 h2 h3
    · intro s h1 h2
      simp only
      rw [wordOf_st, upd_ne (by omega)]
      exact h.head0 s h1 h2
    · intro s e h1 h2 h3 j hj
      simp only at h1 h2 h3 ⊢
      rw [wordOf_st, upd_ne (by omega)]
      rw [List.getElem?_append_left (by omega)] at h3
      exact h.sig1 s e h1 h2 h3 j hj
    · intro c
      simp only
      rw [wordOf_st, upd_ne (by omega), h.cell c]
      unfold cellV
      by_cases hlt : g.done < g.es.length
      · rw [List.getElem?_append_left hlt, valN_app _ _ _ (by omega)]
      · have he : g.done = g.es.length := by omega
        rw [List.getElem?_eq_none (by omega), he, List.getElem?_append_right (Nat.le_refl _)]
        simp [valN_app, valW]
    · intro i e he
      simp only at he ⊢
      by_cases hi : i < g.es.length
      · rw [List.getElem?_append_left hi] at he
        exact h.ent i e he
      · rw [List.getElem?_append_right (by omega)] at he
        have hi0 : i - g.es.length = 0 := by
          by_cases h0 : i - g.es.length = 0
          · exact h0
          · rw [List.getElem?_eq_none (by simp; omega)] at he; cases he
        rw [hi0] at he
        simp at he
        subst he
        exact ⟨rfl, Nat.zero_le _, fun _ => rfl, fun _ => rfl, hw⟩
  · exact ⟨h, Ext.refl _, Nat.le_refl _, Nat.le_refl _, by simp, by simp⟩
theorem layG_inv {size cells : Nat} {g : GS} {l : List Acc} (h : GInv size cells g l) (hs : 1 ≤ size) : GStep size cells g l (layG size g l).1 (layG size g l).2 := by
  unfold layG
  split
  · exact ⟨h, Ext.refl _, Nat.le_refl _, Nat.le_refl _, by simp, by simp⟩
  · rename_i e he
    have hd := h.dl
    have hlt : g.laid < g.es.length := (List.getElem?_eq_some_iff.1 he).1
    have hcap := h.cap
    have hbig := h.big
    have W : ∀ a b c : Int, wordOf (l ++ sigSt (((g.laid + 1) % size : Nat) : Int) e.sg 8 ++ [stAcc (-1) 2 (((g.laid + 1) % size : Nat) : Int) 0 (2 * ((g.laid + 1 : Nat) : Int))]) a b c = if a = 2 ∧ b = (((g.laid + 1) % size : Nat) : Int) ∧ c = 0 then 2 * ((g.laid + 1 : Nat) : Int) else if a = 3 ∧ b = (((g.laid + 1) % size : Nat) : Int) ∧ 0 ≤ c ∧ c < (8 : Nat) then wrap64 (e.sg c.toNat) else wordOf l a b c := by
      intro a b c
      rw [wordOf_st]
      unfold upd
      rw [wordOf_sigSt]
    refine ⟨⟨?_, ?_, ?_, ?_, ?_, by simp only; omega, by simp only; omega, h.cap, ?_, ?_, h.big⟩, Ext.refl _, Nat.le_refl _, by simp only; omega, ?_, by simp only; omega⟩
    · simp only
      rw [W, if_neg (by omega), if_neg (by omega)]
      exact h.newest
    · intro s h1 h2 h3
      simp only at h2 h3 ⊢
      rw [W]
      by_cases hsn : s = g.laid + 1
      · subst hsn
        rw [if_pos ⟨rfl, rfl, rfl⟩, if_neg (by omega)]
        omega
      · have := mod_ne (s := s) (n := g.laid + 1) (size := size) (by omega) (by omega)
        rw [if_neg (by omega), if_neg (by omega)]
        exact h.head1 s h1 (by omega) (by omega)
    · intro s h1 h2
      simp only at h1 ⊢
      have := mod_ne (s := g.laid + 1) (n := s) (size := size) (by omega) (by omega)
      rw [W, if_neg (by omega), if_neg (by omega)]
      exact h.head0 s (by omega) h2
    · intro s e' h1 h2 h3 j hj
      simp only at h1 h2 h3 ⊢
      rw [W, if_neg (by omega)]
      by_cases hsn : s = g.laid
      · subst hsn
        rw [he] at h3
        obtain rfl := Option.some.inj h3
        rw [if_pos ⟨rfl, rfl, by omega, by omega⟩]
        simp
      · have := mod_ne (s := s + 1) (n := g.laid + 1) (size := size) (by omega) (by omega)
        rw [if_neg (by omega)]
        exact h.sig1 s e' (by omega) (by omega) h3 j hj
    · intro c
      simp only
      rw [W, if_neg (by omega), if_neg (by omega)]
      exact h.cell c
    · intro i e' h'
      simp only at h' ⊢
      obtain ⟨k1, k2, k3, k4, k5⟩ := h.ent i e' h'
      exact ⟨k1, k2, k3, fun hi => k4 (by omega), k5⟩
    · intro a b c
      simp only
      rw [W]
      split
      · exact ⟨by omega, by omega⟩
      · split
        · exact wrap64_range _
        · exact h.okw a b c
    · simp only [List.length_append, sigSt_len, List.length_cons, List.length_nil]
      omega
theorem valW_snoc (ws : List (Int × Int)) (r : Int × Int) (c v : Int) : valW (ws ++ [r]) c v = if r.1 = c then r.2 else valW ws c v := by
  unfold valW; rw [List.foldl_append]; rfl
theorem backG_inv {size cells : Nat} {g : GS} {l : List Acc} (h : GInv size cells g l) : GStep size cells g l (backG g l).1 (backG g l).2 := by
  have h0 : GStep size cells g l g l := ⟨h, Ext.refl _, Nat.le_refl _, Nat.le_refl _, by omega, by omega⟩
  unfold backG
  split
  rotate_left
  · exact h0
  rename_i hdl
  split
  · exact h0
  rename_i e he
  split
  · exact h0
  rename_i r hr
  have hlt : g.done < g.es.length := (List.getElem?_eq_some_iff.1 he).1
  have hrl : e.bk < e.ws.length := (List.getElem?_eq_some_iff.1 hr).1
  obtain ⟨e1, e2, e3, e4, e5⟩ := h.ent _ e he
  have hrm := e5 r (List.mem_of_getElem? hr)
  have hset : ∀ i, i ≠ g.done → (g.es.set g.done ⟨e.ws, e.sg, e.bk + 1⟩)[i]? = g.es[i]? := fun i hi => by rw [List.getElem?_set, if_neg (fun h => hi h.symm)]
  have hset1 : (g.es.set g.done ⟨e.ws, e.sg, e.bk + 1⟩)[g.done]? = some ⟨e.ws, e.sg, e.bk + 1⟩ := by rw [List.getElem?_set, if_pos rfl, if_pos hlt]
  refine ⟨⟨?_, ?_, ?_, ?_, ?_, h.dl, by simp only [List.length_set]; exact h.ll, by simp only [List.length_set]; exact h.cap, ?_, okW_st h.okw _ _ _ _ _ hrm.2, by simp only [List.length_set]; exact h.big⟩, Ext.set he _, Nat.le_refl _, Nat.le_refl _, by simp, by simp⟩
  · simp only
    rw [wordOf_st, upd_ne (by omega), List.length_set]
    exact h.newest
  · intro s h1 h2 h3
    simp only
    rw [wordOf_st, upd_ne (by omega)]
    exact h.head1 s h1 h2 h3
  · intro s h1 h2
    simp only
    rw [wordOf_st, upd_ne (by omega)]
    exact h.head0 s h1 h2
  · intro s e' h1 h2 h3 j hj
    simp only at h1 h2 h3 ⊢
    rw [wordOf_st, upd_ne (by omega)]
    by_cases hsd : s = g.done
    · subst hsd
      rw [hset1] at h3
      obtain rfl := Option.some.inj h3
      exact h.sig1 _ e h1 h2 he j hj
    · rw [hset s hsd] at h3
      exact h.sig1 s e' h1 h2 h3 j hj
  · intro c
    simp only
    have hc := h.cell c
    unfold cellV at hc ⊢
    rw [he] at hc
    rw [hset1, wordOf_st]
    have hv : valN (g.es.set g.done ⟨e.ws, e.sg, e.bk + 1⟩) g.done c = valN g.es g.done c := by
      unfold valN
      rw [List.take_set_of_le (Nat.le_refl _)]
    simp only at hc ⊢
    rw [hv, List.take_succ_eq_append_getElem hrl, valW_snoc, ← hc]
    have hre : e.ws[e.bk] = r := (List.getElem?_eq_some_iff.1 hr).2
    rw [hre]
    unfold upd
    by_cases hrc : r.1 = c
    · rw [if_pos ⟨rfl, hrc.symm, rfl⟩, if_pos hrc]
    · rw [if_neg (fun k => hrc k.2.1.symm), if_neg hrc]
  · intro i e' h'
    simp only at h' ⊢
    by_cases hi : i = g.done
    · subst hi
      rw [hset1] at h'
      obtain rfl := Option.some.inj h'
      exact ⟨e1, by simp only; omega, fun k => by omega, fun k => by omega, e5⟩
    · rw [hset i hi] at h'
      exact h.ent i e' h'
theorem endG_inv {size cells : Nat} {g : GS} {l : List Acc} (h : GInv size cells g l) (hs : 1 ≤ size) : GStep size cells g l (endG size g l).1 (endG size g l).2 := by
  have h0 : GStep size cells g l g l := ⟨h, Ext.refl _, Nat.le_refl _, Nat.le_refl _, by omega, by omega⟩
  unfold endG
  split
  rotate_left
  · exact h0
  rename_i hdl
  split
  · exact h0
  rename_i e he
  split
  rotate_left
  · exact h0
  rename_i hbk
  have hlt : g.done < g.es.length := (List.getElem?_eq_some_iff.1 he).1
  have hcap := h.cap
  have hll := h.ll
  have hbig := h.big
  refine ⟨⟨?_, ?_, ?_, ?_, ?_, by simp only; omega, h.ll, by simp only; omega, ?_, okW_st h.okw _ _ _ _ _ ⟨by omega, by omega⟩, h.big⟩, Ext.refl _, by simp only; omega, Nat.le_refl _, by simp, by simp only; omega⟩
  · simp only
    rw [wordOf_st, upd_ne (by omega)]
    exact h.newest
  · intro s h1 h2 h3
    simp only at h2 h3 ⊢
    rw [wordOf_st]
    by_cases hsn : s = g.done + 1
    · subst hsn
      rw [upd_eq, if_pos (by omega)]
    · have hne : s % size ≠ (g.done + 1) % size := by
        rcases Nat.lt_or_gt_of_ne hsn with hl | hl
        · exact mod_ne hl (by omega)
        · exact fun k => mod_ne hl (by omega) k.symm
      rw [upd_ne (by omega), h.head1 s h1 h2 h3]
      congr 1
      by_cases hle : s ≤ g.done
      · rw [if_pos hle, if_pos (by omega)]
      · rw [if_neg hle, if_neg (by omega)]
  · intro s h1 h2
    simp only at h1 ⊢
    have := mod_ne (s := g.done + 1) (n := s) (size := size) (by omega) (by omega)
    rw [wordOf_st, upd_ne (by omega)]
    exact h.head0 s h1 h2
  · intro s e' h1 h2 h3 j hj
    simp only at h1 h2 h3 ⊢
    rw [wordOf_st, upd_ne (by omega)]
    exact h.sig1 s e' h1 h2 h3 j hj
  · intro c
    simp only
    rw [wordOf_st, upd_ne (by omega), h.cell c]
    have hv : valN g.es (g.done + 1) c = valW e.ws c (valN g.es g.done c) := by
      unfold valN
      rw [List.take_succ_eq_append_getElem hlt, List.foldl_append]
      rw [(List.getElem?_eq_some_iff.1 he).2]
      rfl
    unfold cellV
    rw [he]
    simp only
    rw [hbk, List.take_of_length_le (Nat.le_refl _), ← hv]
    split
    · rfl
    · rename_i e' he'
      obtain ⟨_, _, k3, _, _⟩ := h.ent _ e' he'
      rw [k3 (by omega)]
      simp [valW]
  · intro i e' h'
    simp only at h' ⊢
    obtain ⟨k1, k2, k3, k4, k5⟩ := h.ent i e' h'
    exact ⟨k1, k2, fun k => k3 (by omega), k4, k5⟩
theorem GStep.refl {size cells : Nat} {g : GS} {l : List Acc} (h : GInv size cells g l) : GStep size cells g l g l := ⟨h, Ext.refl _, Nat.le_refl _, Nat.le_refl _, by omega, by omega⟩
/-- Two acts, with what they leave but for the numbers of entries and accesses. -/
theorem GStep.two {size cells : Nat} {g g1 g2 : GS} {l l1 l2 : List Acc} (h : GStep size cells g l g1 l1) (k : GStep size cells g1 l1 g2 l2) (hl : l2.length ≤ l.length + 14) (ho : g2.es.length ≤ g.es.length + 1) : GStep size cells g l g2 l2 :=
  ⟨k.inv, h.ext.trans k.ext, Nat.le_trans h.done k.done, Nat.le_trans h.laid k.laid, hl, ho⟩
theorem backG_len (g : GS) (l : List Acc) : (backG g l).2.length ≤ l.length + 1 ∧ (backG g l).1.es.length = g.es.length := by
  unfold backG
  split
  · split
    · simp
    · split <;> simp
  · simp
theorem layG_len (size : Nat) (g : GS) (l : List Acc) : (layG size g l).2.length ≤ l.length + 9 ∧ (layG size g l).1.es.length = g.es.length := by
  unfold layG
  split
  · simp
  · simp only [List.length_append, sigSt_len, List.length_cons, List.length_nil]
    exact ⟨by omega, trivial⟩
theorem endG_len (size : Nat) (g : GS) (l : List Acc) : (endG size g l).2.length ≤ l.length + 1 ∧ (endG size g l).1.es.length = g.es.length := by
  unfold endG
  split
  · split
    · simp
    · split <;> simp
  · simp
theorem actG_inv {size cells : Nat} {g : GS} {l : List Acc} (h : GInv size cells g l) (hs : 1 ≤ size) (kind : Int) (ws : List (Int × Int)) (hw : ∀ r ∈ ws, (0 ≤ r.1 ∧ r.1 < (cells : Int)) ∧ I64 r.2) (hb : g.es.length < 100000000) : GStep size cells g l (actG size cells g l kind ws).1 (actG size cells g l kind ws).2 := by
  unfold actG
  split
  · exact pubG_inv h hs ws hw hb
  split
  · exact layG_inv h hs
  split
  · exact backG_inv h
  split
  · exact endG_inv h hs
  unfold allG
  have ha : GStep size cells g l (if g.done = g.laid then layG size g l else (g, l)).1 (if g.done = g.laid then layG size g l else (g, l)).2 ∧ (if g.done = g.laid then layG size g l else (g, l)).2.length ≤ l.length + 9 ∧ (if g.done = g.laid then layG size g l else (g, l)).1.es.length = g.es.length := by
    split
    · exact ⟨layG_inv h hs, layG_len _ _ _⟩
    · exact ⟨GStep.refl h, by simp only; omega, rfl⟩
  generalize (if g.done = g.laid then layG size g l else (g, l)) = a at ha
  obtain ⟨ha, la, na⟩ := ha
  simp only
  split
  rotate_left
  · exact ha
  have hb1 := backG_inv ha.inv
  have lb := backG_len a.1 a.2
  generalize backG a.1 a.2 = b at *
  have hc1 := backG_inv hb1.inv
  have lc := backG_len b.1 b.2
  generalize backG b.1 b.2 = c at *
  have hd1 := backG_inv hc1.inv
  have ld := backG_len c.1 c.2
  generalize backG c.1 c.2 = d at *
  have he1 := backG_inv hd1.inv
  have le := backG_len d.1 d.2
  generalize backG d.1 d.2 = e at *
  have hf1 := endG_inv he1.inv hs
  have lf := endG_len size e.1 e.2
  generalize endG size e.1 e.2 = f at *
  exact ((((ha.two hb1 (by omega) (by omega)).two hc1 (by omega) (by omega)).two hd1 (by omega) (by omega)).two he1 (by omega) (by omega)).two hf1 (by omega) (by omega)
/-- A new ring over a new memory. -/
theorem gInv_nil {size cells : Nat} : GInv size cells ⟨[], 0, 0⟩ [] :=
  ⟨rfl, fun s h1 h2 => by simp only at h2; omega, fun s _ _ => rfl, fun s e h1 => by simp only at h1; omega, fun c => rfl, Nat.le_refl _, Nat.le_refl _, by simp, fun i e h => by simp at h, okW_nil, by simp⟩
end Go.Proofs.Ytojkeahffabifaa
