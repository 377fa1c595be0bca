/- Plain: what a transaction reads and writes. -/
import Derived.Test.YtekmdekcncgkfaaS5b
import Derived.Test.YtekmdekcncgkfaaC2h
namespace Go.Proofs.Ytekmdekcncgkfaa
open Go.RowKit
theorem ofS_snoc (l : List Int) (c : Int) : ofS (l ++ [c]) = withS (ofS l) c := by simp [ofS, List.foldl_append]
theorem bit_fold (l : List Int) : ∀ (s : Nat → Int) (k : Nat), bitB s k = true → bitB (l.foldl withS s) k = true := by
  induction l with
  | nil => intro s k h; exact h
  | cons a r ih =>
    intro s k h
    refine ih (withS s a) k ?_
    unfold withS
    rw [bitB_putB, h]; rfl
theorem bit_mem (l : List Int) : ∀ (s : Nat → Int) (c : Int), c ∈ l → bitB (l.foldl withS s) (hashN c) = true := by
  induction l with
  | nil => intro s c h; cases h
  | cons a r ih =>
    intro s c h
    rcases List.mem_cons.1 h with rfl | h
    · refine bit_fold r _ _ ?_
      unfold withS
      rw [bitB_putB]; simp
    · exact ih _ c h
theorem withS_same {l : List Int} {c : Int} (h : c ∈ l) : withS (ofS l) c = ofS l := by
  funext i
  exact putB_of_bit (ofS l) (ofS_wds l) (hashN c) (bit_mem l noS c h) i
/-- The cells that were told, each once. -/
def tellL (told : List Int) (c : Int) : List Int := if (0 ≤ c ∧ c < 1024) ∧ c ∉ told then told ++ [c] else told
theorem tellL_reads (told : List Int) (c : Int) (h : 0 ≤ c ∧ c < 1024) : withS (ofS told) c = ofS (tellL told c) := by
  unfold tellL
  by_cases hm : c ∈ told
  · rw [if_neg (fun e => e.2 hm), withS_same hm]
  · rw [if_pos ⟨h, hm⟩, ofS_snoc]
theorem tellL_out (told : List Int) (c : Int) (h : ¬ (0 ≤ c ∧ c < 1024)) : tellL told c = told := by
  unfold tellL
  rw [if_neg (fun e => h e.1)]
structure ToldOk (told : List Int) : Prop where
  nodup : told.Nodup
  rng : ∀ x ∈ told, 0 ≤ x ∧ x < 1024
theorem tellL_ok {told : List Int} (h : ToldOk told) (c : Int) : ToldOk (tellL told c) := by
  unfold tellL
  split
  · rename_i hc
    refine ⟨?_, fun x hx => ?_⟩
    · rw [List.nodup_append]
      refine ⟨h.nodup, by simp, ?_⟩
      intro a ha b hb e
      simp at hb
      subst hb
      subst e
      exact hc.2 ha
    · rcases List.mem_append.1 hx with hx | hx
      · exact h.rng x hx
      · simp at hx; subst hx; exact hc.1
  · exact h
theorem told_len_aux : ∀ (n : Nat) (l : List Int), l.Nodup → (∀ x ∈ l, 0 ≤ x ∧ x < n) → l.length ≤ n
  | 0, l, _, h => by
    cases l with
    | nil => simp
    | cons a r => have := h a (by simp); omega
  | n + 1, l, hd, h => by
    have hlen := List.length_eq_countP_add_countP (l := l) (fun x => x == (n : Int))
    have h1 : l.countP (fun x => x == (n : Int)) ≤ 1 := by
      have := (List.nodup_iff_count.1 hd) (n : Int)
      exact this
    have h2 : l.countP (fun x => decide ¬ (x == (n : Int)) = true) ≤ n := by
      rw [List.countP_eq_length_filter]
      refine told_len_aux n _ (hd.sublist (List.filter_sublist)) fun x hx => ?_
      rw [List.mem_filter] at hx
      have := h x hx.1
      have hne : x ≠ (n : Int) := by simpa using hx.2
      omega
    omega
theorem told_len {told : List Int} (h : ToldOk told) : told.length ≤ 1024 := told_len_aux 1024 told h.nodup h.rng
/-- What Write answers. -/
noncomputable def logE (st : TS) (c : Int) : Int := if putE st c = 2 then 5 else putE st c
def cellsT (st : TS) : List Int := st.rows.map (·.1)
theorem wrote_put (st : TS) (c v : Int) : (if putE st c = 0 then withS (ofS (cellsT st)) c else ofS (cellsT st)) = ofS (cellsT (putT st c v)) := by
  by_cases hok : putE st c = 0
  · rw [if_pos hok]
    have hc := ((putE_iff st c).1 hok).1
    unfold cellsT
    rw [put_cells c v hc hok]
    by_cases hb : getB st c = true
    · rw [if_pos hb]
      obtain ⟨j, hj, e⟩ := getB_mem.1 hb
      refine withS_same (List.mem_map.2 ⟨(cellAt st.rows j, valAt st.rows j), ?_, e⟩)
      unfold cellAt valAt
      rw [List.getD_eq_getElem?_getD, List.getElem?_eq_getElem hj]
      exact List.getElem_mem hj
    · rw [if_neg hb, ofS_snoc]
  · rw [if_neg hok, put_refused c v hok]
theorem putE_cases (st : TS) (c : Int) : putE st c = 0 ∨ putE st c = 1 ∨ putE st c = 2 := by
  unfold putE
  split
  · omega
  · split
    · omega
    · split <;> omega
/-- Whether a list has a number among its first so many. -/
def memN (l : List Int) (c : Int) (k : Nat) : Bool := (List.range k).any fun j => slotAt l j == c
theorem memN_succ (l : List Int) (c : Int) (k : Nat) : memN l c (k + 1) = (memN l c k || slotAt l k == c) := by
  unfold memN
  rw [List.range_succ, List.any_append]
  simp
theorem memN_all (l : List Int) (c : Int) : memN l c l.length = decide (c ∈ l) := by
  rw [Bool.eq_iff_iff, decide_eq_true_iff]
  unfold memN
  rw [List.any_eq_true]
  constructor
  · rintro ⟨j, hj, h⟩
    rw [List.mem_range] at hj
    have e : slotAt l j = l[j] := by
      unfold slotAt
      rw [List.getD_eq_getElem?_getD, List.getElem?_eq_getElem hj]; rfl
    rw [e] at h
    have h2 : l[j] = c := by simpa using h
    rw [← h2]
    exact List.getElem_mem hj
  · intro h
    obtain ⟨j, hj, e⟩ := List.getElem_of_mem h
    refine ⟨j, List.mem_range.2 hj, ?_⟩
    unfold slotAt
    rw [List.getD_eq_getElem?_getD, List.getElem?_eq_getElem hj]
    simp [e]
end Go.Proofs.Ytekmdekcncgkfaa
