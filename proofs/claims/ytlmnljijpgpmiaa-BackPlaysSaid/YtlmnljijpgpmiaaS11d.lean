/- Plain: two machines of neighbouring stamps. -/
import Derived.Test.YtlmnljijpgpmiaaS11c
import Derived.Test.YtlmnljijpgpmiaaS2b
import Derived.Test.YtlmnljijpgpmiaaC2h
namespace Go.Proofs.Ytlmnljijpgpmiaa
open Go.RowKit
set_option linter.unusedVariables false
theorem lastV_app (A B : List (Int × Int)) (c : Int) : lastV (A ++ B) c = B.foldl (fun v x => if x.1 = c then x.2 else v) (lastV A c) := by unfold lastV; rw [List.foldl_append]
theorem fold_skip {B : List (Int × Int)} {c : Int} (h : ∀ y ∈ B, y.1 ≠ c) (v : Int) : B.foldl (fun v x => if x.1 = c then x.2 else v) v = v := by
  induction B generalizing v with
  | nil => rfl
  | cons y B ih =>
    rw [List.foldl_cons, if_neg (h y (List.mem_cons_self ..))]
    exact ih (fun z hz => h z (List.mem_cons_of_mem _ hz)) v
theorem lastV_ins {A B : List (Int × Int)} {y : Int × Int} (h : ∀ z ∈ B, z.1 ≠ y.1) (c : Int) : lastV (A ++ [y] ++ B) c = if y.1 = c then y.2 else lastV (A ++ B) c := by
  rw [lastV_app, lastV_snoc, lastV_app]
  by_cases e : y.1 = c
  · subst e
    rw [if_pos rfl, if_pos rfl]
    exact fold_skip h _
  · rw [if_neg e, if_neg e]
/-- No bit in common. -/
def NoM (sx sy : Nat → Int) : Prop := ∀ j, j < 8 → bits .and .u64 (sx j) (sy j) = 0
theorem noM_eq {sx sy : Nat → Int} (h : NoM sx sy) : (!sigEq (andS sx sy) noS) = false := by
  have : sigEq (andS sx sy) noS = true := by
    rw [sigEq_iff]
    intro j hj
    exact h j hj
  rw [this]; rfl
theorem bitB_foldD : ∀ (l : List Int) (s : Nat → Int) (k : Nat), bitB (l.foldl withS s) k = (bitB s k || l.any fun c => decide (k = hashN c))
  | [], s, k => by simp
  | c :: l, s, k => by
    rw [List.foldl_cons, bitB_foldD l (withS s c) k, List.any_cons]
    unfold withS
    rw [bitB_putB, Bool.or_assoc]
theorem bitB_ofD {l : List Int} {c : Int} (h : c ∈ l) : bitB (ofS l) (hashN c) = true := by
  unfold ofS
  rw [bitB_foldD, bitB_noS, Bool.false_or, List.any_eq_true]
  exact ⟨c, h, by simp⟩
theorem noM_apart {Wx Wy : List (Int × Int)} (h : NoM (ofS (Wx.map Prod.fst)) (ofS (Wy.map Prod.fst))) {a b : Int × Int} (ha : a ∈ Wx) (hb : b ∈ Wy) : b.1 ≠ a.1 := by
  intro e
  have h1 := bitB_ofD (l := Wx.map Prod.fst) (c := a.1) (List.mem_map.2 ⟨a, ha, rfl⟩)
  have h2 := bitB_ofD (l := Wy.map Prod.fst) (c := a.1) (List.mem_map.2 ⟨b, hb, e⟩)
  have h3 : bitB (andS (ofS (Wx.map Prod.fst)) (ofS (Wy.map Prod.fst))) (hashN a.1) = true := by
    rw [bitB_andS (ofS_wds _) (ofS_wds _), h1, h2]; rfl
  have h4 : bitB (andS (ofS (Wx.map Prod.fst)) (ofS (Wy.map Prod.fst))) (hashN a.1) = false := by
    unfold bitB
    have hk := hashN_lt a.1
    rw [show andS (ofS (Wx.map Prod.fst)) (ofS (Wy.map Prod.fst)) (hashN a.1 / 64) = 0 from h _ (by omega)]
    simp
  rw [h3] at h4
  cases h4
theorem wrap_back {z : Int} (h0 : 0 ≤ z) (h1 : z < 18446744073709551616) : IntKind.u64.wrap (wrap64 z) = z := by
  rw [IntKind.wrap_u64]
  unfold wrap64
  omega
/-- Where the elder stands, by the words of its slot. -/
structure Elder (n : Nat) (sx : Nat → Int) (Wx : List (Int × Int)) (bx : BK) (l : List Acc) : Prop where
  ok : BKOk n 1 sx Wx bx
  known : bx.known = true
  nx : bx.nx = 1 ∨ bx.nx = 5 ∨ bx.nx = 7 ∨ bx.nx = 0
  head : wordOf l 2 (slotZ 1 n) 0 = if bx.nx = 1 then 1 else if bx.nx = 0 then 3 else 2
  sig : ∀ j : Nat, j < 8 → (bx.nx ≠ 1 ∨ j < bx.laid) → wordOf l 3 (slotZ 1 n) j = wrap64 (sx j)
/-- The younger beside it. -/
structure Younger (n : Nat) (sx sy : Nat → Int) (Wy : List (Int × Int)) (bx bY : BK) (l : List Acc) : Prop where
  ok : BKOk n 2 sy Wy bY
  known : bY.known = true → bx.nx = 0
  fin : wordOf l 2 (slotZ 2 n) 0 = 5 → bY.nx = 0
  word : bY.nx = 3 → bx.nx ≠ 1 ∧ ∀ j : Nat, (j : Int) < bY.word → bits .and .u64 (sx j) (sy j) = 0
  gone : 5 ≤ bY.nx ∨ bY.nx = 0 → bx.nx = 0 ∨ NoM sx sy
structure OInv (n : Nat) (Wx Wy : List (Int × Int)) (bx bY : BK) (l : List Acc) : Prop where
  x : Elder n (ofS (Wx.map Prod.fst)) Wx bx l
  y : Younger n (ofS (Wx.map Prod.fst)) (ofS (Wy.map Prod.fst)) Wy bx bY l
  cells : ∀ c, wordOf l 4 c 0 = lastV (Wx.take (Wx.length - bx.left) ++ Wy.take (Wy.length - bY.left)) c
  okw : OkW l
theorem slot12 {n : Nat} (hn : 2 ≤ n) (hn2 : n ≤ 16) : slotZ 1 n ≠ slotZ 2 n := slot_apart (st := 2) (k := 1) (by omega) hn2 (by omega) (by omega)
theorem headZ1f : headZ 1 false = 2 := by unfold headZ wrap64; simp
theorem headZ1t : headZ 1 true = 3 := by unfold headZ wrap64; simp
theorem headZ2f : headZ 2 false = 4 := by unfold headZ wrap64; simp
theorem headZ2t : headZ 2 true = 5 := by unfold headZ wrap64; simp
theorem OInv.new {n : Nat} (hn : 2 ≤ n) (Wx Wy : List (Int × Int)) : OInv n Wx Wy (newK n true 1 Wx) (newK n true 2 Wy) [] where
  x := {
    ok := BKOk.new n (by omega) true 1 (by omega) _ Wx
    known := by show (!true || (n == 1) || ((1 : Int) == 1)) = true; simp
    nx := .inl rfl
    head := rfl
    sig := by
      intro j hj h
      rcases h with h | h
      · exact absurd rfl h
      · exact absurd h (Nat.not_lt_zero _) }
  y := {
    ok := BKOk.new n (by omega) true 2 (by omega) _ Wy
    known := by
      intro h
      change (!true || (n == 1) || ((2 : Int) == 1)) = true at h
      simp at h; omega
    fin := by intro h; change (1 : Int) = 5 at h; omega
    word := by intro h; change 1 = 3 at h; omega
    gone := by intro h; change 5 ≤ 1 ∨ 1 = 0 at h; omega }
  cells := by
    intro c
    show wordOf [] 4 c 0 = lastV (Wx.take (Wx.length - Wx.length) ++ Wy.take (Wy.length - Wy.length)) c
    rw [Nat.sub_self, Nat.sub_self]; rfl
  okw := okW_nil
theorem wordOf_okw {n : Nat} {st : Int} {s : Nat → Int} {W : List (Int × Int)} {b : BK} {l : List Acc} (h : OkW l) (hb : BKOk n st s W b) (h0 : b.nx ≠ 0) (hW : ∀ y ∈ W, I64 y.2) (th v : Int) : OkW (l ++ [accK n st s W b th v]) := by
  have hx := hb.nx
  intro a bb c
  rw [wordOf_step (by omega) hx]
  have hr := headZ_range st
  split
  · split
    · unfold upd; split
      · exact wrap64_range _
      · exact h ..
    · unfold upd; split
      · exact hr false
      · exact h ..
  · split
    · unfold upd; split
      · rename_i h5 _
        exact hW _ (List.mem_of_getElem? (wrK_at (hb.wr h5) hb.left))
      · exact h ..
    · split
      · unfold upd; split
        · exact hr true
        · exact h ..
      · exact h ..
/-- A step of the elder. -/
theorem OInv.elder {n : Nat} {Wx Wy : List (Int × Int)} {bx bY : BK} {l : List Acc} (hn : 2 ≤ n) (hn2 : n ≤ 16) (h : OInv n Wx Wy bx bY l) (h0 : bx.nx ≠ 0) (hW : ∀ y ∈ Wx, I64 y.2) (th v : Int) :
    OInv n Wx Wy (stepB11 n 1 (ofS (Wx.map Prod.fst)) bx v).1 bY (l ++ [accK n 1 (ofS (Wx.map Prod.fst)) Wx bx th v]) ∧ muK 1 (stepB11 n 1 (ofS (Wx.map Prod.fst)) bx v).1 + 1 = muK 1 bx := by
  have hx := h.x.ok.nx
  have hkn : bx.nx = 1 ∨ bx.nx = 5 ∨ bx.nx = 7 := by
    rcases h.x.nx with h | h | h | h
    · exact .inl h
    · exact .inr (.inl h)
    · exact .inr (.inr h)
    · exact absurd h h0
  obtain ⟨k1, k2, k3⟩ := known_step h.x.ok h.x.known hkn v
  refine ⟨?_, k2⟩
  have hw := wordOf_step (n := n) (st := 1) (s := ofS (Wx.map Prod.fst)) (W := Wx) (b := bx) (by omega) hx th v l
  have hs12 := slot12 hn hn2
  have hsl := step_left (n := n) (st := 1) (s := ofS (Wx.map Prod.fst)) (b := bx) (v := v)
  have hnx' : (stepB11 n 1 (ofS (Wx.map Prod.fst)) bx v).1.nx = 1 ∨ (stepB11 n 1 (ofS (Wx.map Prod.fst)) bx v).1.nx = 5 ∨ (stepB11 n 1 (ofS (Wx.map Prod.fst)) bx v).1.nx = 7 ∨ (stepB11 n 1 (ofS (Wx.map Prod.fst)) bx v).1.nx = 0 := by
    rcases k3 with ⟨_, _, q⟩ | ⟨_, _, q⟩
    · omega
    · exact .inr (.inr (.inr q))
  -- what the step makes of the phase
  have hph : (bx.nx = 1 ∧ bx.laid < 8 ∧ (stepB11 n 1 (ofS (Wx.map Prod.fst)) bx v).1.nx = 1 ∧ (stepB11 n 1 (ofS (Wx.map Prod.fst)) bx v).1.laid = bx.laid + 1) ∨ (bx.nx = 1 ∧ ¬ bx.laid < 8 ∧ ((stepB11 n 1 (ofS (Wx.map Prod.fst)) bx v).1.nx = 5 ∨ (stepB11 n 1 (ofS (Wx.map Prod.fst)) bx v).1.nx = 7)) ∨ (bx.nx = 5 ∧ ((stepB11 n 1 (ofS (Wx.map Prod.fst)) bx v).1.nx = 5 ∨ (stepB11 n 1 (ofS (Wx.map Prod.fst)) bx v).1.nx = 7)) ∨ (bx.nx = 7 ∧ (stepB11 n 1 (ofS (Wx.map Prod.fst)) bx v).1.nx = 0) := by
    have hr : ∀ c : BK, c.known = true → (rdyK c).nx = 5 ∨ (rdyK c).nx = 7 := by
      intro c hc
      unfold rdyK
      show (if 0 < c.left then 5 else if c.known = true then 7 else 6) = 5 ∨ (if 0 < c.left then 5 else if c.known = true then 7 else 6) = 7
      rw [hc]
      split
      · exact .inl rfl
      · exact .inr rfl
    rcases hkn with h1 | h5 | h7
    · unfold stepB11
      rw [if_pos h1]
      by_cases h8 : bx.laid < 8
      · rw [if_pos h8]
        exact .inl ⟨h1, h8, h1, rfl⟩
      · rw [if_neg h8, if_pos h.x.known]
        exact .inr (.inl ⟨h1, h8, hr _ h.x.known⟩)
    · unfold stepB11
      rw [if_neg (by omega), if_neg (by omega), if_neg (by omega), if_neg (by omega), if_pos h5]
      exact .inr (.inr (.inl ⟨h5, hr { bx with left := bx.left - 1 } h.x.known⟩))
    · unfold stepB11
      rw [if_neg (by omega), if_neg (by omega), if_neg (by omega), if_neg (by omega), if_neg (by omega), if_neg (by omega)]
      exact .inr (.inr (.inr ⟨h7, rfl⟩))
  have hok' := h.x.ok.step v
  generalize stepB11 n 1 (ofS (Wx.map Prod.fst)) bx v = r at *
  have hnl := h.x.ok.laid
  refine ⟨⟨hok', k1, hnx', ?_, ?_⟩, ⟨h.y.ok, ?_, ?_, ?_, ?_⟩, ?_, wordOf_okw h.okw h.x.ok h0 hW th v⟩
  · rw [hw]
    rcases hph with ⟨a, b, c, e⟩ | ⟨a, b, c⟩ | ⟨a, c⟩ | ⟨a, c⟩
    · rw [if_pos a, if_pos b, if_pos c]
      unfold upd; rw [if_neg (by omega), h.x.head, if_pos a]
    · rw [if_pos a, if_neg b, if_neg (by omega), if_neg (by omega)]
      unfold upd; rw [if_pos ⟨rfl, rfl, rfl⟩, headZ1f]
    · rw [if_neg (by omega), if_pos a, if_neg (by omega), if_neg (by omega)]
      unfold upd; rw [if_neg (by omega), h.x.head, if_neg (by omega), if_neg (by omega)]
    · rw [if_neg (by omega), if_neg (by omega), if_pos a, if_neg (by omega), if_pos c]
      unfold upd; rw [if_pos ⟨rfl, rfl, rfl⟩, headZ1t]
  · intro j hj hq
    rw [hw]
    rcases hph with ⟨a, b, c, e⟩ | ⟨a, b, c⟩ | ⟨a, c⟩ | ⟨a, c⟩
    · rw [if_pos a, if_pos b]
      unfold upd
      by_cases e' : j = bx.laid
      · rw [e', if_pos ⟨rfl, rfl, rfl⟩]
      · rw [if_neg (fun q => e' (by have := q.2.2; omega))]
        exact h.x.sig j hj (.inr (by omega))
    · rw [if_pos a, if_neg b]
      unfold upd; rw [if_neg (by omega)]
      exact h.x.sig j hj (.inr (by omega))
    · rw [if_neg (by omega), if_pos a]
      unfold upd; rw [if_neg (by omega)]
      exact h.x.sig j hj (.inl (by omega))
    · rw [if_neg (by omega), if_neg (by omega), if_pos a]
      unfold upd; rw [if_neg (by omega)]
      exact h.x.sig j hj (.inl (by omega))
  · intro hk
    exact absurd (h.y.known hk) h0
  · intro hf
    refine h.y.fin ?_
    rw [← hf, hw]
    repeat' split
    all_goals first | rfl | (unfold upd; rw [if_neg (fun e => hs12 e.2.1.symm)]) | (unfold upd; rw [if_neg (by omega)])
  · intro h3
    obtain ⟨q1, q2⟩ := h.y.word h3
    exact ⟨by omega, q2⟩
  · intro hg
    rcases h.y.gone hg with q | q
    · exact absurd q h0
    · exact .inr q
  · intro c
    rw [hw, hsl]
    rcases hph with ⟨a, b, c', e⟩ | ⟨a, b, c'⟩ | ⟨a, c'⟩ | ⟨a, c'⟩
    · rw [if_pos a, if_pos b, if_neg (by omega), ← h.cells c]
      unfold upd; rw [if_neg (by omega)]
    · rw [if_pos a, if_neg b, if_neg (by omega), ← h.cells c]
      unfold upd; rw [if_neg (by omega)]
    · rw [if_neg (by omega), if_pos a, if_pos a, take_wr (h.x.ok.wr a) h.x.ok.left]
      have hmem := List.mem_of_getElem? (wrK_at (h.x.ok.wr a) h.x.ok.left)
      have hdis : ∀ z ∈ Wy.take (Wy.length - bY.left), z.1 ≠ (wrK Wx bx).1 := by
        intro z hz
        by_cases hbl : bY.left = Wy.length
        · rw [hbl, Nat.sub_self] at hz
          simp at hz
        · have hgone : 5 ≤ bY.nx ∨ bY.nx = 0 := by
            by_cases h14 : 1 ≤ bY.nx ∧ bY.nx ≤ 4
            · exact absurd (h.y.ok.all h14.1 h14.2) hbl
            · omega
          rcases h.y.gone hgone with q | q
          · exact absurd q h0
          · exact noM_apart q hmem (List.mem_of_mem_take hz)
      rw [lastV_ins hdis, ← h.cells c]
      unfold upd
      by_cases e : (wrK Wx bx).1 = c
      · rw [if_pos ⟨rfl, e.symm, rfl⟩, if_pos e]
      · rw [if_neg (fun k => e k.2.1.symm), if_neg e]
    · rw [if_neg (by omega), if_neg (by omega), if_pos a, if_neg (by omega), ← h.cells c]
      unfold upd; rw [if_neg (by omega)]
end Go.Proofs.Ytlmnljijpgpmiaa
