/- Layer 11: the two machines beside their memories: what the walk of BackPlays keeps. -/
import Derived.Test.YtlmnljijpgpmiaaC11zm
import Derived.Test.YtlmnljijpgpmiaaC11nm
import Derived.Test.YtlmnljijpgpmiaaW11
import Derived.Test.YtlmnljijpgpmiaaC3j
import Derived.Test.YtlmnljijpgpmiaaR1
import Derived.StillTailTactics
import Derived.Deep.RegionLaw
import Derived.Deep.CutBlock
import Derived.Deep.CutRange
import Derived.Test.YtlmnljijpgpmiaaRT
namespace Go.Proofs.Ytlmnljijpgpmiaa
open Go.RowKit
set_option linter.unusedVariables false
theorem AtW.snd11 {w0 wr : World} {A B : HP} (h : AtW w0 (Star A B) wr) : AtW w0 B wr := (h.imp (fun _ h => h.comm)).fst
theorem star_asL {A B C : HP} {w : World} {F : Nat → Prop} (h : Star A (Star B C) w F) : Star (Star A B) C w F := by
  obtain ⟨FA, FX, ha, ⟨FB, FC, hb, hc, h1, h2⟩, h3, h4⟩ := h
  exact ⟨fun b => FA b ∨ FB b, FC, ⟨FA, FB, ha, hb, fun _ => Iff.rfl, fun b k1 k2 => h4 b k1 ((h1 b).2 (.inl k2))⟩, hc, fun b => by rw [h3, h1, or_assoc], fun b k1 k2 => k1.elim (fun k => h4 b k ((h1 b).2 (.inr k2))) (fun k => h2 b k k2)⟩
theorem star_asRt {A B C : HP} {w : World} {F : Nat → Prop} (h : Star (Star A B) C w F) : Star A (Star B C) w F := by
  obtain ⟨FX, FC, ⟨FA, FB, ha, hb, h1, h2⟩, hc, h3, h4⟩ := h
  exact ⟨FA, fun b => FB b ∨ FC b, ha, ⟨FB, FC, hb, hc, fun _ => Iff.rfl, fun b k1 k2 => h4 b ((h1 b).2 (.inr k1)) k2⟩, fun b => by rw [h3, h1, or_assoc], fun b k1 k2 => k2.elim (fun k => h2 b k1 k) (fun k => h4 b ((h1 b).2 (.inl k1)) k)⟩
/-- No object. -/
def NoH : HP := fun _ F => ∀ b, ¬ F b
theorem NoH.good : Good NoH := ⟨fun h _ _ => h, fun h h2 => absurd h2 (h _)⟩
theorem AtW.no11 {w0 wr : World} {A : HP} (h : AtW w0 A wr) : AtW w0 (Star A NoH) wr := by
  obtain ⟨F, h1, h2, h3⟩ := h
  exact ⟨F, ⟨F, fun _ => False, h1, fun _ h => h, fun b => ⟨fun h => .inl h, fun h => h.elim id False.elim⟩, fun _ _ h => h⟩, h2, h3⟩
abbrev FourB (p x r y R C n : Nat) (st : Int) (mu : Bool) (W : List (Int × Int)) (lv lvr : Value) (l l' : List Acc) (b : BK) (kk : Nat) (L : List Int) (sn : Bool) : HP := Star (KBo p x R C (mkD n st mu lv W) l b) (RBM r y R C l' (mkD n st mu lvr W) kk L sn)
theorem FourB.good (p x r y R C n : Nat) (st : Int) (mu : Bool) (W : List (Int × Int)) (lv lvr : Value) (l l' : List Acc) (b : BK) (kk : Nat) (L : List Int) (sn : Bool) : Good (FourB p x r y R C n st mu W lv lvr l l' b kk L sn) := (KBo.good _ _ _ _ _ _ _).star (RBM.good _ _ _ _ _ _ _ _ _)
/-- What holds of the numbers. -/
def NumB (n : Nat) (st : Int) (mu : Bool) (W : List (Int × Int)) (l : List Acc) (b : BK) (kk : Nat) (L : List Int) (sn : Bool) : Prop := OkW l ∧ BKOk n st (ofS (W.map Prod.fst)) W b ∧ BRl n mu st (ofS (W.map Prod.fst)) W b kk L sn ∧ (∀ z ∈ L, I64 z) ∧ L.length ≤ l.length
/-- What may be. -/
structure MayB (n : Nat) (st : Int) (W : List (Int × Int)) : Prop where
  n : 1 ≤ n ∧ n ≤ 16
  st : 1 ≤ st ∧ st ≤ 1099511627776
  ok : wOk W
  v : ∀ z ∈ W, I64 z.2
  len : W.length ≤ 24
/-- The loop's invariant. -/
def PlayB (w : World) (p x r y R C n : Nat) (st : Int) (mu : Bool) (W : List (Int × Int)) (lv lvr : Value) (k : Nat) (wr : World) : Prop := ∃ l b kk L sn, AtW w (FourB p x r y R C n st mu W lv lvr l l b kk L sn) wr ∧ l.length ≤ k ∧ NumB n st mu W l b kk L sn
section
variable {w wr w' : World} {p x r y R C n k : Nat} {st : Int} {mu : Bool} {W : List (Int × Int)} {lv lvr : Value}
theorem PlayB.below (h : PlayB w p x r y R C n st mu W lv lvr k wr) : Below w.heap.size w wr := by
  obtain ⟨l, b, kk, L, sn, h1, _⟩ := h
  exact h1.below
theorem PlayB.calm (h : PlayB w p x r y R C n st mu W lv lvr k wr) (hb : Below wr.heap.size wr w') : PlayB w p x r y R C n st mu W lv lvr k w' := by
  obtain ⟨l, b, kk, L, sn, h1, h2⟩ := h
  exact ⟨l, b, kk, L, sn, h1.calm (FourB.good _ _ _ _ _ _ _ _ _ _ _ _ _ _ _ _ _ _) hb, h2⟩
theorem PlayB.up (h : PlayB w p x r y R C n st mu W lv lvr k wr) : PlayB w p x r y R C n st mu W lv lvr (k + 1) wr := by
  obtain ⟨l, b, kk, L, sn, h1, h2, h3⟩ := h
  exact ⟨l, b, kk, L, sn, h1, by omega, h3⟩
theorem playB_start (hM : MayB n st W) (h : AtW w (FourB p x r y R C n st mu W lv lvr [] [] (newK n mu st W) 0 [] false) wr) : PlayB w p x r y R C n st mu W lv lvr 0 wr :=
  ⟨[], _, 0, [], false, h, Nat.le_refl _, okW_nil, BKOk.new n hM.n.1 mu st hM.st.1 _ W, BRl.new n mu st _ W, fun _ h => (by cases h), Nat.le_refl _⟩
theorem playB_sig (h : PlayB w p x r y R C n st mu W lv lvr k wr) : Calls Try.prog 15 #[.pointer (some ⟨x, 0, none⟩)] wr fun e w' => e = .returned (.agg #[.int .u64 (ofS (W.map Prod.fst) 0), .int .u64 (ofS (W.map Prod.fst) 1), .int .u64 (ofS (W.map Prod.fst) 2), .int .u64 (ofS (W.map Prod.fst) 3), .int .u64 (ofS (W.map Prod.fst) 4), .int .u64 (ofS (W.map Prod.fst) 5), .int .u64 (ofS (W.map Prod.fst) 6), .int .u64 (ofS (W.map Prod.fst) 7)]) ∧ Below wr.heap.size wr w' := by
  obtain ⟨l, b, kk, L, sn, h1, _⟩ := h
  obtain ⟨F, hF⟩ := h1.has
  exact Looks.left (B := RBM r y R C l (mkD n st mu lvr W) kk L sn) (Looks.right (A := MemH p R C l) (Looks.right (A := RowH lv W) (bakSig_any x (mkD n st mu lv W) b))) wr F hF
theorem playB_rsig (h : PlayB w p x r y R C n st mu W lv lvr k wr) : ∃ kk sn lvL, RBakR wr y (mkD n st mu lvr W) kk sn lvL := by
  obtain ⟨l, b, kk, L, sn, h1, _⟩ := h
  obtain ⟨_, lvL, g, _⟩ := h1.has.right.right.right
  exact ⟨kk, sn, lvL, rb_cells g⟩
theorem playB_left (hM : MayB n st W) (h : PlayB w p x r y R C n st mu W lv lvr k wr) : ∃ m : Nat, (∀ w1, Below wr.heap.size wr w1 → Calls Try.prog 12 #[.pointer (some ⟨x, 0, none⟩)] w1 fun e w' => e = .returned (.int .i64 m) ∧ Below w1.heap.size w1 w') ∧
    (∀ w1, Below wr.heap.size wr w1 → Calls Try.prog 22 #[.pointer (some ⟨y, 0, none⟩)] w1 fun e w' => e = .returned (.int .i64 m) ∧ Below w1.heap.size w1 w') := by
  obtain ⟨l, b, kk, L, sn, h1, h2, h3, h4, h5, h6⟩ := h
  obtain ⟨e1, e2⟩ := h5.left
  have hl := hM.len
  refine ⟨b.left, fun w1 hb => ?_, fun w1 hb => ?_⟩
  · obtain ⟨F, hF⟩ := (h1.calm (FourB.good _ _ _ _ _ _ _ _ _ _ _ _ _ _ _ _ _ _) hb).has
    exact Looks.left (B := RBM r y R C l (mkD n st mu lvr W) kk L sn) (Looks.right (A := MemH p R C l) (Looks.right (A := RowH lv W) (bakLeft_any x (mkD n st mu lv W) b))) w1 F hF
  · obtain ⟨F, hF⟩ := (h1.calm (FourB.good _ _ _ _ _ _ _ _ _ _ _ _ _ _ _ _ _ _) hb).has
    rw [e1]
    exact Looks.right (A := KBo p x R C (mkD n st mu lv W) l b) (Looks.right (A := RMemH r R C l) (rbLeft_any y (mkD n st mu lvr W) ⟨hM.n, hM.st, hl, ofS_wds _⟩ kk (by omega) L sn)) w1 F hF
/-- Behind the program's store, ahead of the reference's. -/
def StoreB (w : World) (p x r y R C n : Nat) (st : Int) (mu : Bool) (W : List (Int × Int)) (lv lvr : Value) (k : Nat) (th a b d v : Int) (wr : World) : Prop := ∃ l bb kk L sn, AtW w (FourB p x r y R C n st mu W lv lvr (putL R C l th a b d v) l bb kk L sn) wr ∧ l.length ≤ k ∧ NumB n st mu W l bb kk L sn
theorem playB_store1 (h : PlayB w p x r y R C n st mu W lv lvr k wr) (hk : k ≤ 2999999999000) (th a b d v : Int) :
    Calls Try.prog 10 #[.pointer (some ⟨p, 0, none⟩), .int .i64 th, .agg #[.int .i64 a, .int .i64 b, .int .i64 d], .int .i64 v] wr fun e w' => (∃ z, e = .returned (.int .i64 z)) ∧ StoreB w p x r y R C n st mu W lv lvr k th a b d v w' := by
  obtain ⟨l, bb, kk, L, sn, h1, h2, h3⟩ := h
  refine ((Lifts.left (RBM.good _ _ _ _ _ _ _ _ _) (Lifts.left ((RowH.good _ _).star (BlkH.good _ _ _)) (store_any p R C l (by omega) th a b d v))).at h1).mono ?_
  rintro e w' ⟨rfl, h⟩
  exact ⟨⟨_, rfl⟩, l, bb, kk, L, sn, h, h2, h3⟩
theorem StoreB.below {th a b d v : Int} (h : StoreB w p x r y R C n st mu W lv lvr k th a b d v wr) : Below w.heap.size w wr := by
  obtain ⟨l, bb, kk, L, sn, h1, _⟩ := h
  exact h1.below
theorem StoreB.calm {th a b d v : Int} (h : StoreB w p x r y R C n st mu W lv lvr k th a b d v wr) (hb : Below wr.heap.size wr w') : StoreB w p x r y R C n st mu W lv lvr k th a b d v w' := by
  obtain ⟨l, bb, kk, L, sn, h1, h2⟩ := h
  exact ⟨l, bb, kk, L, sn, h1.calm (FourB.good _ _ _ _ _ _ _ _ _ _ _ _ _ _ _ _ _ _) hb, h2⟩
theorem playB_store2 {th a b d v : Int} (h : StoreB w p x r y R C n st mu W lv lvr k th a b d v wr) (hk : k ≤ 2999999999000) (hv : I64 v) :
    Calls Try.prog 20 #[.pointer (some ⟨r, 0, none⟩), .int .i64 th, .agg #[.int .i64 a, .int .i64 b, .int .i64 d], .int .i64 v] wr fun e w' => (∃ z, e = .returned (.int .i64 z)) ∧ PlayB w p x r y R C n st mu W lv lvr (k + 1) w' := by
  obtain ⟨l, bb, kk, L, sn, h1, h2, h3, h4, h5, h6, h7⟩ := h
  refine ((Lifts.right (KBo.good _ _ _ _ _ _ _) (Lifts.left (RBakH.good _ _ _ _ _) (rstore_any r R C l (by omega) th a b d v))).at h1).mono ?_
  rintro e w' ⟨rfl, h⟩
  have hp := putL_len R C l th a b d v
  have hq : l.length ≤ (putL R C l th a b d v).length := by unfold putL; split <;> simp
  exact ⟨⟨_, rfl⟩, _, bb, kk, L, sn, h, by omega, okW_put h3 th a b d v hv, h4, h5, h6, by omega⟩
/-- Behind the program's step, ahead of the reference's. -/
def StepB (w : World) (p x r y R C n : Nat) (st : Int) (mu : Bool) (W : List (Int × Int)) (lv lvr : Value) (k : Nat) (th kd : Int) (O : HP → HP) (wr : World) : Prop := ∃ l kk L sn l' b' kk' L' sn', NumB n st mu W l' b' kk' L' sn' ∧ l'.length ≤ k + 1 ∧
  Lifts Try.prog 21 #[.pointer (some ⟨y, 0, none⟩), .pointer (some ⟨r, 0, none⟩), .int .i64 th] (RBM r y R C l (mkD n st mu lvr W) kk L sn) (RBM r y R C l' (mkD n st mu lvr W) kk' L' sn') (.returned (.int .i64 kd)) ∧
  AtW w (O (FourB p x r y R C n st mu W lv lvr l' l b' kk L sn)) wr
theorem StepB.below {th kd : Int} (h : StepB w p x r y R C n st mu W lv lvr k th kd id wr) : Below w.heap.size w wr := by
  obtain ⟨l, kk, L, sn, l', b', kk', L', sn', _, _, _, g⟩ := h
  exact g.below
theorem StepB.box {th kd : Int} (h : StepB w p x r y R C n st mu W lv lvr k th kd id wr) (cs : Array Value) (T : TypeId) : StepB w p x r y R C n st mu W lv lvr k th kd (fun O => Star O (BlkH wr.heap.size cs T)) (wr.alloc (.cells cs T)) := by
  obtain ⟨l, kk, L, sn, l', b', kk', L', sn', h1, h2, h3, g⟩ := h
  exact ⟨l, kk, L, sn, l', b', kk', L', sn', h1, h2, h3, AtW.box (FourB.good _ _ _ _ _ _ _ _ _ _ _ _ _ _ _ _ _ _) g cs T⟩
theorem playB_step1 (hM : MayB n st W) (h : PlayB w p x r y R C n st mu W lv lvr k wr) (hk : k ≤ 2999999999000) (th : Int) :
    Calls Try.prog 11 #[.pointer (some ⟨x, 0, none⟩), .pointer (some ⟨p, 0, none⟩), .int .i64 th] wr fun e w' => ∃ kd q, e = .returned (ansV kd 0 0 q) ∧ ((kd = 0 ∧ q = false) ∨ ((kd = 1 ∨ kd = 2 ∨ kd = 3) ∧ q = true)) ∧ StepB w p x r y R C n st mu W lv lvr k th kd id w' := by
  obtain ⟨l, b, kk, L, sn, h1, h2, h3, h4, h5, h6, h7⟩ := h
  obtain ⟨l', b', kk', L', sn', kd, q, g1, g2, g3, g4, g5, g6, g7, g8, g9⟩ := bak_both p x r y R C n hM.n st hM.st mu W hM.ok hM.v hM.len lv lvr l (by omega) h3 b h4 kk L sn h5 h6 h7 th
  refine ((Lifts.left (RBM.good _ _ _ _ _ _ _ _ _) g8).at h1).mono ?_
  rintro e w' ⟨rfl, h⟩
  exact ⟨kd, q, rfl, g7, l, kk, L, sn, l', b', kk', L', sn', ⟨g3, g1, g2, g5, g6⟩, by omega, g9, h⟩
theorem playB_step2 {th kd : Int} {Q : HP} (gq : Good Q) (h : StepB w p x r y R C n st mu W lv lvr k th kd (fun O => Star O Q) wr) :
    Calls Try.prog 21 #[.pointer (some ⟨y, 0, none⟩), .pointer (some ⟨r, 0, none⟩), .int .i64 th] wr fun e w' => e = .returned (.int .i64 kd) ∧ PlayB w p x r y R C n st mu W lv lvr (k + 1) w' ∧ Has Q w' := by
  obtain ⟨l, kk, L, sn, l', b', kk', L', sn', h1, h2, h3, g⟩ := h
  refine ((Lifts.left gq (Lifts.right (KBo.good _ _ _ _ _ _ _) h3)).at g).mono ?_
  rintro e w' ⟨rfl, h⟩
  exact ⟨rfl, ⟨l', b', kk', L', sn', h.fst, h2, h1⟩, h.has.right⟩
/-- The logs are compared. -/
theorem playB_logs (h : PlayB w p x r y R C n st mu W lv lvr k wr) (hk : k ≤ 2999999999000) :
    ∃ l lvL, wr.cell? ⟨r, 2, none⟩ = some lvL ∧ (∀ o, wr.frozen? ⟨r, o, none⟩ = false) ∧ Calls Try.prog 24 #[.pointer (some ⟨p, 0, none⟩), .int .i64 0] wr (LogGot wr l) ∧
      ∀ v w', w'.ownsRow 0 90 8 v l.length (accCells l) → Below wr.heap.size wr w' → Calls Try.prog 23 #[v, lvL] w' fun e w2 => e = .returned (.bool true) ∧ Below w.heap.size w w2 := by
  obtain ⟨l, b, kk, L, sn, h1, h2, h3⟩ := h
  have hbel := h1.below
  obtain ⟨FM, hM⟩ := h1.has.left.left
  obtain ⟨FR, lvL, g1, g2, _⟩ := h1.has.right.left
  obtain ⟨_, _, q2, qz⟩ := three_cells g1
  refine ⟨l, lvL, q2, qz, log_any p R C l (by omega) wr FM hM, fun v w' hv hb => ?_⟩
  refine (accs11_any v lvL l (by omega) w' hv (own_calm g2 hb)).mono ?_
  rintro e w2 ⟨rfl, hb2⟩
  exact ⟨rfl, hbel.trans ((hb.trans (hb2.mono hb.size)).mono hbel.size)⟩
end
end Go.Proofs.Ytlmnljijpgpmiaa
namespace Go.Proofs.Ytlmnljijpgpmiaa
open Go.RowKit
set_option linter.unusedVariables false
/-- What is written, as it came in. -/
def gridW (q : Nat → Nat → Int) (len : Nat) : List (Int × Int) := (List.range len).map fun i => (q i 0, q i 1)
theorem gridW_len (q : Nat → Nat → Int) (len : Nat) : (gridW q len).length = len := by simp [gridW]
theorem gridW_at (q : Nat → Nat → Int) {len k : Nat} (h : k < len) : (gridW q len)[k]? = some (q k 0, q k 1) := by simp [gridW, h]
theorem gridW_arg {w : World} {a : Option Addr} {len c : Nat} {q : Nat → Nat → Int} (h : Grid w a len 2 q) : ArgO w (.slice a len c) (gridW q len) := by
  refine ⟨a, c, by rw [gridW_len], fun hW => ?_⟩
  have h0 : len ≠ 0 := by rintro rfl; exact hW rfl
  obtain ⟨b, off, rfl, hb, hc⟩ := h.resolve_left h0
  refine ⟨b, off, rfl, hb, fun k hk => ?_⟩
  rw [gridW_len] at hk
  obtain ⟨e1, e2⟩ := wcells_at (gridW_at q (show k / 2 < len by omega))
  rcases Nat.mod_two_eq_zero_or_one k with h2 | h2
  · have ek : k = k / 2 * 2 := by omega
    have h := hc (k / 2) (by omega) 0 (by omega)
    rw [Nat.add_zero, ← ek] at h
    rw [← ek] at e1
    rw [h, e1]
  · have ek : k = k / 2 * 2 + 1 := by omega
    have h := hc (k / 2) (by omega) 1 (by omega)
    rw [Nat.add_assoc, ← ek] at h
    rw [← ek] at e2
    rw [h, e2]
theorem cfg_all {w : World} {p : Nat} {a b c d e f g : Value} {T : TypeId} (h : w.heap[p]? = some (.cells #[a, b, c, d, e, f, g] T)) :
    w.cell? ⟨p, 0, none⟩ = some a ∧ w.cell? ⟨p, 1, none⟩ = some b ∧ w.cell? ⟨p, 2, none⟩ = some c ∧ w.cell? ⟨p, 3, none⟩ = some d ∧ w.cell? ⟨p, 4, none⟩ = some e ∧ w.cell? ⟨p, 5, none⟩ = some f ∧ w.cell? ⟨p, 6, none⟩ = some g ∧ ∀ o, w.frozen? ⟨p, o, none⟩ = false :=
  ⟨by simp [World.cell?, h], by simp [World.cell?, h], by simp [World.cell?, h], by simp [World.cell?, h], by simp [World.cell?, h], by simp [World.cell?, h], by simp [World.cell?, h], fun o => by simp [World.frozen?, h]⟩
theorem arg_cells {w : World} {p : Nat} {a b c d e f g i j k l m : Value} {T : TypeId} (h : w.heap[p]? = some (.cells #[a, b, c, d, e, f, g, i, j, k, l, m] T)) :
    w.cell? ⟨p, 7, none⟩ = some i ∧ w.cell? ⟨p, 8, none⟩ = some j ∧ w.cell? ⟨p, 9, none⟩ = some k ∧ w.cell? ⟨p, 10, none⟩ = some l ∧ w.cell? ⟨p, 11, none⟩ = some m ∧ ∀ o, w.frozen? ⟨p, o, none⟩ = false :=
  ⟨by simp [World.cell?, h], by simp [World.cell?, h], by simp [World.cell?, h], by simp [World.cell?, h], by simp [World.cell?, h], fun o => by simp [World.frozen?, h]⟩
/-- May it be made of this? -/
def okAll (n st : Int) (W : List (Int × Int)) : Prop := ((1 ≤ n ∧ n ≤ 16) ∧ (1 ≤ st ∧ st ≤ 1099511627776) ∧ W.length ≤ 24) ∧ wOk W
instance (n st : Int) (W : List (Int × Int)) : Decidable (okAll n st W) := by unfold okAll; infer_instance
/-- What was made. -/
def MadeB (n st : Int) (mu : Bool) (W : List (Int × Int)) (xv : Value) (ev : Int) (O : HP) : Prop :=
  (decide (okAll n st W) = true ∧ ∃ nn : Nat, n = nn ∧ MayB nn st W ∧ ∃ x lv, xv = .pointer (some ⟨x, 0, none⟩) ∧ ev = 0 ∧ O = Star (RowH lv W) (BakH x (mkD nn st mu lv W) (newK nn mu st W))) ∨
  (decide (okAll n st W) = false ∧ xv = .pointer none ∧ ev = 1 ∧ O = NoH)
theorem MadeB.good {n st : Int} {mu : Bool} {W : List (Int × Int)} {xv : Value} {ev : Int} {O : HP} (h : MadeB n st mu W xv ev O) : Good O := by
  rcases h with ⟨_, nn, _, _, x, lv, _, _, rfl⟩ | ⟨_, _, _, rfl⟩
  · exact (RowH.good _ _).star (BlkH.good _ _ _)
  · exact NoH.good
theorem NoH.at {w w' : World} (hb : Below w.heap.size w w') : AtW w NoH w' := ⟨fun _ => False, fun _ h => h, hb, fun _ h => h.elim⟩
theorem bakNew_all (c0 n c2 c3 : Int) (mu : Bool) (c5 : Int) (c6 : Value) (st : Int) (v : Value) (W : List (Int × Int)) (hWv : ∀ z ∈ W, I64 z.2) (w : World) (hA : ArgW w v W) :
    Calls Try.prog 8 #[.agg #[.int .i64 c0, .int .i64 n, .int .i64 c2, .int .i64 c3, .bool mu, .int .i64 c5, c6], .int .i64 st, v] w fun e w' => ∃ xv ev O, e = .returned (.tuple #[xv, .int .i64 ev]) ∧ MadeB n st mu W xv ev O ∧ AtW w O w' := by
  by_cases h : (1 ≤ n ∧ n ≤ 16) ∧ (1 ≤ st ∧ st ≤ 1099511627776) ∧ W.length ≤ 24
  · obtain ⟨nn, rfl⟩ : ∃ m : Nat, n = m := ⟨n.toNat, by omega⟩
    refine (bakNew_any c0 nn c2 c3 mu c5 c6 st v W w hA (by omega) (by omega) h.2.1.1 h.2.1.2 h.2.2).mono ?_
    rintro e w' (⟨hok, x, lv, rfl, hAt⟩ | ⟨hno, rfl, hb⟩)
    · exact ⟨_, _, _, rfl, .inl ⟨decide_eq_true ⟨h, hok⟩, nn, rfl, ⟨by omega, h.2.1, hok, hWv, h.2.2⟩, x, lv, rfl, rfl, rfl⟩, hAt⟩
    · exact ⟨_, _, NoH, rfl, .inr ⟨decide_eq_false (fun k => hno k.2), rfl, rfl, rfl⟩, NoH.at hb⟩
  · obtain ⟨a, c, rfl, _⟩ := hA
    refine (bakNew_bad c0 n c2 c3 mu c5 c6 st a W.length c h w).mono ?_
    rintro e w' ⟨rfl, hb⟩
    exact ⟨_, _, NoH, rfl, .inr ⟨decide_eq_false (fun k => h k.1), rfl, rfl, rfl⟩, NoH.at hb⟩
theorem rtakes_all (c0 n c2 c3 : Int) (mu : Bool) (c5 : Int) (c6 : Value) (st : Int) (v : Value) (W : List (Int × Int)) (w : World) (hA : ArgO w v W) :
    Calls Try.prog 16 #[.agg #[.int .i64 c0, .int .i64 n, .int .i64 c2, .int .i64 c3, .bool mu, .int .i64 c5, c6], .int .i64 st, v] w fun e w' => e = .returned (.bool (decide (okAll n st W))) ∧ Below w.heap.size w w' := by
  by_cases h : (1 ≤ n ∧ n ≤ 16) ∧ (1 ≤ st ∧ st ≤ 1099511627776) ∧ W.length ≤ 24
  · refine (rtakes11_loop c0 n c2 c3 mu c5 c6 st v W w hA h.1.1 h.1.2 h.2.1.1 h.2.1.2 h.2.2).mono ?_
    rintro e w' ⟨rfl, hb⟩
    refine ⟨?_, hb⟩
    by_cases hk : wOk W
    · rw [decide_eq_true hk, decide_eq_true (show okAll n st W from ⟨h, hk⟩)]
    · rw [decide_eq_false hk, decide_eq_false (fun k : okAll n st W => hk k.2)]
  · obtain ⟨a, c, rfl, _⟩ := hA
    refine (rtakes11_bad c0 n c2 c3 mu c5 c6 st a W.length c h w).mono ?_
    rintro e w' ⟨rfl, hb⟩
    exact ⟨by rw [decide_eq_false (fun k : okAll n st W => h k.1)], hb⟩
theorem AtW.drew11 {w0 w1 w2 : World} {g i : Nat} {W : List (Int × Int)} {O : HP} (h : AtW w0 (InH g i W) w1) (k : AtW w1.drew O w2) : AtW w0 (Star (InH g i W) O) w2 := (h.calm (InH.good _ _ _) (Below.refl _ _).drew).new (InH.good _ _ _) k
set_option maxHeartbeats 16000000 in
set_option maxRecDepth 100000 in
theorem backPlays_law {w : World} (c0 n c2 c3 : Int) (mu : Bool) (c5 : Int) (a6 : Option Addr) (l6 k6 : Nat) (st : Int) (a1 : Option Addr) (l1 c1 : Nat) (q1 : Nat → Nat → Int) (cells ring : Int) (a2 : Option Addr) (l2 k2 : Nat) (q2 : Nat → Nat → Int) (hg1 : Grid w a1 l1 2 q1) (hq1 : ∀ i j, I64 (q1 i j)) (hg2 : Grid w a2 l2 6 q2) (hq2 : ∀ i j, I64 (q2 i j)) (hs1 : l1 ≤ 8796093021952) (hs2 : l2 ≤ 2932031007402) :
    Calls Try.prog 5 #[.agg #[.int .i64 c0, .int .i64 n, .int .i64 c2, .int .i64 c3, .bool mu, .int .i64 c5, .slice a6 l6 k6, .int .i64 st, .slice a1 l1 c1, .int .i64 cells, .int .i64 ring, .slice a2 l2 k2]] w fun e w' => e = .returned (.bool true) ∧ Below w.heap.size w w' := by
  obtain ⟨i0, hi, hI0, hI1, hI2⟩ := info_parts infoWr
  have HG2 := Lib.hid hg2
  have HQ2 := Lib.hid hq2
  obtain ⟨W, hW⟩ : ∃ W, W = gridW q1 l1 := ⟨_, rfl⟩
  have hWl : W.length = l1 := by rw [hW, gridW_len]
  have hAO := gridW_arg (c := c1) hg1
  rw [← hW] at hAO
  have HAO := Lib.hid hAO
  have HWL := Lib.hid hWl
  have hWv : ∀ z ∈ W, I64 z.2 := by
    intro z hz
    rw [hW] at hz
    obtain ⟨i, _, rfl⟩ := List.mem_map.1 hz
    exact hq1 i 1
  have HWV := Lib.hid hWv
  clear hW hg1 hq1 hg2 hq2 hAO hWl hWv
  obtain ⟨mk, hmk, HMK⟩ := makeW11 (l1 + 1) (by omega)
  have HMKC := Lib.hid hmk
  rw [show ((l1 + 1 : Nat) : Int) = (l1 : Int) + 1 by omega] at HMK
  have hbw := HMK
  have HNEW := Lib.hid (fun w v hA => bakNew_all c0 n c2 c3 mu c5 (.slice a6 l6 k6) st v W HWV.out w hA)
  have HTAK := Lib.hid (fun w v hA => rtakes_all c0 n c2 c3 mu c5 (.slice a6 l6 k6) st v W w hA)
  have HB0 : Hid (∀ a b, Below w.heap.size w ((w.alloc a).alloc b)) := fun a b => ((Below.refl _ _).alloc (Nat.le_refl _) _).alloc (by simp) _
  have HBX0 : Hid (∀ (wb : World) a b, Below ((w.alloc a).alloc b).heap.size ((w.alloc a).alloc b) wb → wb.heap[w.heap.size + 1]? = some b) := fun wb a b hb => (hb.block _ (by simp)).trans (by
    have h := heapAlloc (w.alloc a) b
    rwa [World.size_alloc] at h)
  clear hmk HMK
  go_enter Try.func5, Try.ntmps5
  go_wp2_with fail
  refine (shown11_any _).mono ?_; rintro e w1 ⟨rfl, hb⟩
  have HCF := Lib.hid (HBX0.out _ _ _ hb)
  have B1 := Lib.hid ((HB0.out _ _).trans (hb.mono (by simp; omega)))
  clear hb HBX0 HB0
  obtain ⟨w2, hcopy, hin, hgrow⟩ := run_copy_into (P := Try.prog) (w1.alloc (.cells mk 29)) 22 22 3 29 i0 2 Try.underlying22 hi hI1 w1.heap.size l1 (l1 + 1) c1 (l1 + 1) (Nat.le_succ _) mk 29 (heapAlloc _ _) (by rw [HMKC.out]; simp [zer2]; omega) a1 (wcells W) (by rw [wcells_len, HWL.out]) (by
    intro h0
    have hA := HAO.out.calm (B1.out.trans ((((Below.refl w1.heap.size w1).alloc (Nat.le_refl _) (.cells mk 29))).mono B1.out.size))
    obtain ⟨a, c, e, hA⟩ := hA
    obtain ⟨g, o, rfl, hg, hc⟩ := hA (by rintro rfl; exact h0 (by have := HWL.out; simpa using this.symm))
    simp only [Value.slice.injEq] at e
    refine ⟨_, e.1, fun j v hj => ?_⟩
    have hjl := (List.getElem?_eq_some_iff.1 hj).1
    rw [wcells_len] at hjl
    have e2 : (⟨g, o, none⟩ : Addr).add j = ⟨g, o + j, none⟩ := by unfold Addr.add; split <;> simp_all
    rw [e2, hc j hjl, hj]) (wcells_one W)
  have HM2 := InH.made (w0 := w1) (W := W) (by rw [HMKC.out, HWL.out] at *; exact hin) (((Below.refl w1.heap.size w1).alloc (Nat.le_refl _) (.cells mk 29)).grown hgrow (by simp) (fun b e => by simp at e; omega)) (Nat.le_refl _)
  have HIN := Lib.hid HM2.1
  have HAW := Lib.hid (HM2.2 (l1 + 1))
  clear HM2 hin hgrow HMKC
  go_wp2_with fail
  have HCF2 := Lib.hid ((HIN.out.below.block _ (heap_lt HCF.out)).trans HCF.out)
  rw [HWL.out] at HAW
  clear hcopy hbw
  go_cut [11, 12] from 27 (fun xv ev wx => ∃ ei : Int, ev = .int .i64 ei ∧ Hid (∃ O, MadeB n st mu W xv ei O ∧ AtW w1 (Star (InH w1.heap.size 0 W) O) wx))
  case first =>
    obtain ⟨f0, f1, f2, f3, f4, f5, f6, fzz⟩ := cfg_all HCF2.out
    have hl1 : (l1 : Int) ≤ (l1 : Int) + 1 := by omega
    go_region_law ((go_simp; go_at_call 8; refine (HNEW.out _ _ (HAW.out.calm (Below.refl _ _).drew)).mono ?_; rintro e w3 ⟨xv, ei, O, rfl, hmade, hat⟩; have HMD := Lib.hid hmade; have HAT := Lib.hid (HIN.out.drew11 hat)))
    all_goals
      clear hmade hat
      go_wp2_with fail
      go_meet
      case rel => exact ⟨_, rfl, _, HMD.out, HAT.out⟩
  obtain ⟨ei, rfl, HX⟩ := hcut
  obtain ⟨O, hmade, hat⟩ := HX.out
  have HMD := Lib.hid hmade
  have HAT := Lib.hid hat
  obtain ⟨f0, f1, f2, f3, f4, f5, f6, fzz⟩ := cfg_all ((hat.below.block _ (heap_lt HCF.out)).trans HCF.out)
  clear hmade hat HX HCF2 HAW HNEW HIN
  go_wp2_with fail
  refine (HTAK.out _ _ (HAO.out.calm (B1.out.trans (HAT.out.below.mono B1.out.size)))).mono ?_; rintro e w4 ⟨rfl, hb⟩
  have HAT4 := Lib.hid (HAT.out.calm ((InH.good _ _ _).star HMD.out.good) hb)
  clear hb HAT f0 f1 f2 f3 f4 f5 f6 fzz HTAK
  obtain ⟨z0, z1⟩ := InH.last HAT4.out.has.left
  rw [HWL.out] at z0 z1
  generalize hok : decide (okAll n st W) = ok at *
  have HOK := Lib.hid hok
  clear hok
  have heq : ∀ w, (Op.equalIn 10000 29 (.agg #[.int .i64 0, .int .i64 0]) (.agg #[.int .i64 0, .int .i64 0])).run Try.prog w = .ok true w := fun w => eqWr11 0 0 w
  have hli : (l1 : Int) < (l1 : Int) + 1 := by omega
  go_upto_block 0 with (fail)
  clear heq z0 z1 hli
  go_cut [14] from 27 (fun iv wx => iv = .int .i64 l1 ∧ Hid (AtW w1 O wx))
  case first =>
    go_wp2_with fail
    go_loopw [14] (fun i wr => ∃ k : Nat, k ≤ l1 ∧ i = .int .i64 k ∧ Hid (AtW w1 (Star (InH w1.heap.size k W) O) wr)) (fun i _ => l1 - (intOf i).toNat)
    case atStart => exact ⟨0, by omega, rfl, HAT4.out⟩
    case round =>
      obtain ⟨k, hk, rfl, HR⟩ := hrel
      by_cases hlt : k < l1
      · obtain ⟨⟨v1, v2⟩, hz⟩ : ∃ z, W[k]? = some z := ⟨_, List.getElem?_eq_getElem (by rw [HWL.out]; exact hlt)⟩
        obtain ⟨p0, p1, pz⟩ := InH.at HR.out.has.left hz
        obtain ⟨a, c, e, hA⟩ := HAO.out.calm (B1.out.trans (HR.out.below.mono B1.out.size))
        obtain ⟨gg, oo, rfl, hg, hc⟩ := hA (by rintro rfl; simp at hz)
        have ea := (Value.slice.inj e).1
        subst ea
        obtain ⟨r0, r1⟩ := wcells_at hz
        have s0 := (hc (k * 2) (by rw [HWL.out]; omega)).trans r0
        have s1 := (hc (k * 2 + 1) (by rw [HWL.out]; omega)).trans r1
        rw [← Nat.add_assoc] at s1
        have HMVQ : Hid (∀ nq, AtW w1 (Star (InH w1.heap.size (k + 1) W) O) (((wr.drewN nq).setCell ⟨w1.heap.size, k * 2, none⟩ (.int .i64 1)).setCell ⟨w1.heap.size, k * 2 + 1, none⟩ (.int .i64 (-9)))) := fun nq => AtW.mv (HR.out.calm ((InH.good _ _ _).star HMD.out.good) (below_drewN (Below.refl _ _) nq)) (Moves.left HMD.out.good (InH.set (g := w1.heap.size) (W := W) (i := k) (by rw [HWL.out]; exact hlt) (.int .i64 1) (.int .i64 (-9))))
        have HMVX := Lib.hid (AtW.mv HR.out (Moves.left HMD.out.good (InH.set (g := w1.heap.size) (W := W) (i := k) (by rw [HWL.out]; exact hlt) (.int .i64 1) (.int .i64 (-9)))))
        have heq : ∀ w, (Op.equalIn 10000 29 (.agg #[.int .i64 v1, .int .i64 v2]) (.agg #[.int .i64 v1, .int .i64 v2])).run Try.prog w = .ok true w := fun w => eqWr11 v1 v2 w
        have hkl : (k : Int) < (l1 : Int) + 1 := by omega
        clear hz e hA hc r0 r1 HR HMVX
        go_wp2_with fail
        go_quiet (fail)
        go_wp2_with fail
        go_roundw
        case rel => exact ⟨k + 1, by omega, by go_num, HMVQ.out _⟩
        case measure => simp [intOf]; omega
      · obtain rfl : k = l1 := by omega
        go_wp2_with fail
        go_meet
        case rel => exact ⟨rfl, HR.out.snd11⟩
  obtain ⟨rfl, HX⟩ := hcut
  rcases HMD.out with ⟨h1, nn, rfl, hmay, x, lv, rfl, rfl, rfl⟩ | ⟨h1, rfl, rfl, rfl⟩
  rotate_left
  · obtain rfl : ok = false := HOK.out.symm.trans h1
    have HE := Lib.hid (B1.out.trans (HX.out.below.mono B1.out.size))
    go_wp2_with fail
    go_ret
    exact ⟨rfl, HE.out⟩
  · obtain rfl : ok = true := HOK.out.symm.trans h1
    have HT2 := Lib.hid (rtakes_any cells ring)
    by_cases hm : ((1 : Int) ≤ cells ∧ cells ≤ 1024) ∧ (1 : Int) ≤ ring ∧ ring ≤ 16
    · obtain ⟨C, rfl⟩ : ∃ C : Nat, cells = C := ⟨cells.toNat, by omega⟩
      obtain ⟨R, rfl⟩ : ∃ R : Nat, ring = R := ⟨ring.toNat, by omega⟩
      rw [decide_eq_true hm] at HT2
      have HM := Lib.hid (memNew_any C R (by omega) (by omega) (by omega) (by omega))
      have HR := Lib.hid (rmemNew_any C R)
      have HRN := Lib.hid (fun w v hA => rbNew_any c0 nn c2 c3 mu c5 (.slice a6 l6 k6) st v W w hA hmay.len)
      unfold RBNew at HRN
      have HMAY := Lib.hid hmay
      clear hm hmay h1 HMD HOK
      go_wp2_with fail
      refine (HT2.out wc).mono ?_; rintro e w' ⟨rfl, rfl⟩
      go_wp2_with fail
      refine (HM.out wc).mono ?_; rintro e w5 ⟨p, rfl, h⟩
      have H5 : Hid (AtW w1 (KBo p x R C (mkD nn st mu lv W) [] (newK nn mu st W)) w5) := (HX.out.new ((RowH.good _ _).star (BlkH.good _ _ _)) h).imp (fun _ h => h.comm)
      clear h
      go_wp2_with fail
      refine (HR.out w5).mono ?_; rintro e w6 ⟨r, rfl, h⟩
      have H6 := Lib.hid (H5.out.new (KBo.good _ _ _ _ _ _ _) h)
      clear h
      obtain ⟨f0, f1, f2, f3, f4, f5, f6, fzz⟩ := cfg_all ((H6.out.below.block _ (heap_lt HCF.out)).trans HCF.out)
      go_wp2_with fail
      refine (HRN.out _ _ (HAO.out.calm (B1.out.trans (H6.out.below.mono B1.out.size)))).mono ?_; rintro e w7 ⟨y, lvr, rfl, h⟩
      have H7 := Lib.hid (playB_start HMAY.out ((H6.out.new ((KBo.good _ _ _ _ _ _ _).star (RMemH.good _ _ _ _)) h).imp (fun _ h => star_asRt h)))
      clear h H6 H5 HX HRN HR HM HT2 f0 f1 f2 f3 f4 f5 f6 fzz
      go_wp2_with fail
      go_loopw [20] (fun i wr => ∃ k : Nat, k ≤ l2 ∧ i = .int .i64 k ∧ Hid (PlayB w1 p x r y R C nn st mu W lv lvr k wr)) (fun i _ => l2 - (intOf i).toNat)
      case atStart => exact ⟨0, by omega, rfl, H7.out⟩
      case round =>
        obtain ⟨k, hk, rfl, HR⟩ := hrel
        by_cases hlt : k < l2
        · obtain ⟨b, off, rfl, hbw, hcell⟩ := HG2.out.resolve_left (by omega)
          have hbel := B1.out.trans (HR.out.below.mono B1.out.size)
          have c0' := (hbel.cell (p := ⟨b, off + k * 6 + 0, none⟩) hbw).trans (hcell k hlt 0 (by omega))
          simp only [Nat.add_zero] at c0'
          have hk2 : k ≤ 2999999999000 := by omega
          go_upto_block 4 with (fail)
          go_cut [20] from 143 to 214 (fun v wx => v = .int .i64 k ∧ Hid (PlayB w1 p x r y R C nn st mu W lv lvr (k + 1) wx))
          case first =>
            by_cases h1 : q2 k 0 = 1
            · rw [h1]
              have c2' := (hbel.cell (p := ⟨b, off + k * 6 + 2, none⟩) hbw).trans (hcell k hlt 2 (by omega))
              have c3' := (hbel.cell (p := ⟨b, off + k * 6 + 3, none⟩) hbw).trans (hcell k hlt 3 (by omega))
              have c4' := (hbel.cell (p := ⟨b, off + k * 6 + 4, none⟩) hbw).trans (hcell k hlt 4 (by omega))
              have c5' := (hbel.cell (p := ⟨b, off + k * 6 + 5, none⟩) hbw).trans (hcell k hlt 5 (by omega))
              have HX := Lib.hid (playB_store1 (HR.out.calm ((Below.refl _ _).drew)) hk2 (-1) (q2 k 2) (q2 k 3) (q2 k 4) (q2 k 5))
              clear h1
              go_wp2_with fail
              go_still_tail 11, (by kernel_rfl)
              change wpList _ _ _ _ _ wr.drew
              go_wp2_with fail
              refine HX.out.mono ?_; rintro e w8 ⟨⟨z, rfl⟩, h⟩
              have H5 := Lib.hid h
              have hbel5 := B1.out.trans (h.below.mono B1.out.size)
              clear h HX c0' c2' c3' c4' c5' hbel
              have c2' := (hbel5.cell (p := ⟨b, off + k * 6 + 2, none⟩) hbw).trans (hcell k hlt 2 (by omega))
              have c3' := (hbel5.cell (p := ⟨b, off + k * 6 + 3, none⟩) hbw).trans (hcell k hlt 3 (by omega))
              have c4' := (hbel5.cell (p := ⟨b, off + k * 6 + 4, none⟩) hbw).trans (hcell k hlt 4 (by omega))
              have c5' := (hbel5.cell (p := ⟨b, off + k * 6 + 5, none⟩) hbw).trans (hcell k hlt 5 (by omega))
              have HX := Lib.hid (playB_store2 (H5.out.calm ((Below.refl _ _).drew)) hk2 (HQ2.out k 5))
              clear hcell hbel5 H5
              go_wp2_with fail
              go_still_tail 11, (by kernel_rfl)
              change wpList _ _ _ _ _ w8.drew
              go_wp2_with fail
              refine HX.out.mono ?_; rintro e w9 ⟨⟨z, rfl⟩, h⟩
              have H6 := Lib.hid h
              clear h HX c2' c3' c4' c5'
              go_wp2_with fail
              go_meet
              case rel => exact ⟨rfl, H6.out⟩
            · have e1 : (q2 k 0 == 1) = false := by simp [h1]
              by_cases h2 : q2 k 0 = 2
              · rw [h2]
                have c1' := (hbel.cell (p := ⟨b, off + k * 6 + 1, none⟩) hbw).trans (hcell k hlt 1 (by omega))
                have HX := Lib.hid (playB_step1 HMAY.out HR.out hk2 (q2 k 1))
                clear e1 h1 h2
                go_wp2_with fail
                refine HX.out.mono ?_; rintro e w8 ⟨kd, q, rfl, hkd, h⟩
                have hbel5 := B1.out.trans (h.below.mono B1.out.size)
                have H5 := Lib.hid (h.box #[.int .i64 kd, .int .i64 0, .int .i64 0, .bool q] 46)
                have c1'' := (hbel5.cell (p := ⟨b, off + k * 6 + 1, none⟩) hbw).trans (hcell k hlt 1 (by omega))
                have hb5 : b < w8.heap.size := Nat.lt_of_lt_of_le hbw hbel5.size
                clear h HX c0' c1' hbel hbel5
                unfold ansV
                go_wp2_with fail
                refine (playB_step2 (BlkH.good _ _ _) H5.out).mono ?_; rintro e w9 ⟨rfl, h, hbx⟩
                have H6 := Lib.hid h
                obtain ⟨z0, z1, z2, z3, _⟩ := four_cells hbx.blk
                clear h hbx H5 c1'' hb5 hcell
                rcases hkd with ⟨rfl, rfl⟩ | ⟨rfl | rfl | rfl, rfl⟩
                all_goals
                  go_wp2_with fail
                  go_meet
                  case rel => exact ⟨rfl, H6.out⟩
              · have e2 : (q2 k 0 == 2) = false := by simp [h2]
                have H6 := Lib.hid HR.out.up
                clear h1 h2 hcell
                go_wp2_with fail
                go_meet
                case rel => exact ⟨rfl, H6.out⟩
          obtain ⟨rfl, HY⟩ := hcut
          have HS := Lib.hid (playB_sig HY.out)
          clear c0' hbel hcell HR
          go_wp2_with fail
          refine HS.out.mono ?_; rintro e w8 ⟨rfl, hb⟩
          have H8 := Lib.hid (HY.out.calm hb)
          clear hb HS HY
          obtain ⟨m, HL1, HL2⟩ := playB_left HMAY.out H8.out
          have HL1 := Lib.hid HL1
          have HL2 := Lib.hid HL2
          have HB8 : Hid (Below w8.heap.size w8 (w8.alloc (.cells #[.int .u64 (ofS (W.map Prod.fst) 0), .int .u64 (ofS (W.map Prod.fst) 1), .int .u64 (ofS (W.map Prod.fst) 2), .int .u64 (ofS (W.map Prod.fst) 3), .int .u64 (ofS (W.map Prod.fst) 4), .int .u64 (ofS (W.map Prod.fst) 5), .int .u64 (ofS (W.map Prod.fst) 6), .int .u64 (ofS (W.map Prod.fst) 7)] 58))) := (Below.refl _ _).alloc (Nat.le_refl _) _
          have HBX := Lib.hid (heapAlloc w8 (.cells #[.int .u64 (ofS (W.map Prod.fst) 0), .int .u64 (ofS (W.map Prod.fst) 1), .int .u64 (ofS (W.map Prod.fst) 2), .int .u64 (ofS (W.map Prod.fst) 3), .int .u64 (ofS (W.map Prod.fst) 4), .int .u64 (ofS (W.map Prod.fst) 5), .int .u64 (ofS (W.map Prod.fst) 6), .int .u64 (ofS (W.map Prod.fst) 7)] 58))
          go_wp2_with fail
          refine (HL1.out _ HB8.out).mono ?_; rintro e w9 ⟨rfl, hb⟩
          have HB9 := Lib.hid (HB8.out.trans (hb.mono HB8.out.size))
          have HBX9 := Lib.hid ((hb.block _ (heap_lt HBX.out)).trans HBX.out)
          clear hb HBX HL1 HB8
          go_wp2_with fail
          refine (HL2.out _ HB9.out).mono ?_; rintro e wa ⟨rfl, hb⟩
          have HBa := Lib.hid (HB9.out.trans (hb.mono HB9.out.size))
          have HBXa := Lib.hid ((hb.block _ (heap_lt HBX9.out)).trans HBX9.out)
          have Ha := Lib.hid (H8.out.calm HBa.out)
          clear hb HBX9 HL2 HB9 HBa H8
          obtain ⟨_, _, _, hRs⟩ := playB_rsig Ha.out
          have ez := hRs.fz
          have r0 : wa.cell? ⟨y, 4, none⟩ = some (.int .u64 (ofS (W.map Prod.fst) 0)) := hRs.rd 0 (by decide)
          have r1 : wa.cell? ⟨y, 5, none⟩ = some (.int .u64 (ofS (W.map Prod.fst) 1)) := hRs.rd 1 (by decide)
          have r2 : wa.cell? ⟨y, 6, none⟩ = some (.int .u64 (ofS (W.map Prod.fst) 2)) := hRs.rd 2 (by decide)
          have r3 : wa.cell? ⟨y, 7, none⟩ = some (.int .u64 (ofS (W.map Prod.fst) 3)) := hRs.rd 3 (by decide)
          have r4 : wa.cell? ⟨y, 8, none⟩ = some (.int .u64 (ofS (W.map Prod.fst) 4)) := hRs.rd 4 (by decide)
          have r5 : wa.cell? ⟨y, 9, none⟩ = some (.int .u64 (ofS (W.map Prod.fst) 5)) := hRs.rd 5 (by decide)
          have r6 : wa.cell? ⟨y, 10, none⟩ = some (.int .u64 (ofS (W.map Prod.fst) 6)) := hRs.rd 6 (by decide)
          have r7 : wa.cell? ⟨y, 11, none⟩ = some (.int .u64 (ofS (W.map Prod.fst) 7)) := hRs.rd 7 (by decide)
          obtain ⟨x0, x1, x2, x3, x4, x5, x6, x7, xz⟩ := look_cells HBXa.out
          clear hRs HBXa
          generalize ofS (W.map Prod.fst) = s at *
          have hse : ∀ w, (Op.equalIn 10000 58 (.agg #[.int .u64 (s 0), .int .u64 (s 1), .int .u64 (s 2), .int .u64 (s 3), .int .u64 (s 4), .int .u64 (s 5), .int .u64 (s 6), .int .u64 (s 7)]) (.agg #[.int .u64 (s 0), .int .u64 (s 1), .int .u64 (s 2), .int .u64 (s 3), .int .u64 (s 4), .int .u64 (s 5), .int .u64 (s 6), .int .u64 (s 7)])).run Try.prog w = .ok true w := by
            intro w
            rw [run_sig_eq]
            simp
          have HFIN : Hid (∀ nq, PlayB w1 p x r y R C nn st mu W lv lvr (k + 1) (wa.drewN nq)) := fun nq => Ha.out.calm (below_drewN (Below.refl _ _) nq)
          clear Ha
          go_wp2_with fail
          go_quiet (fail)
          go_wp2_with fail
          go_roundw
          case rel => exact ⟨k + 1, by omega, by go_num, HFIN.out _⟩
          case measure => simp [intOf]; omega
        · obtain rfl : k = l2 := by omega
          have H5 := Lib.hid (HR.out.calm ((Below.refl _ _).drew))
          clear HR
          obtain ⟨l, lvL, q2', qz, HLG, HAC⟩ := playB_logs H5.out (by omega)
          have HLG := Lib.hid HLG
          have HAC := Lib.hid HAC
          have hrl : r < wr.drew.heap.size := World.block_lt_of_cell? _ _ q2'
          go_wp2_with fail
          go_region_law (first | (go_simp; go_at_call 24; refine HLG.out.mono ?_; rintro e wl ⟨v, rfl, hv, hb⟩; have ql := (hb.cell (p := ⟨r, 2, none⟩) hrl).trans q2') | (go_simp; go_at_call 23; refine (HAC.out _ _ hv hb).mono ?_; rintro e w7 ⟨rfl, h7⟩))
          all_goals
            have H7 := Lib.hid h7
            clear h7 hv hb ql
            go_wp2_with fail
            go_ret
            exact ⟨rfl, B1.out.trans (H7.out.mono B1.out.size)⟩
    · rw [decide_eq_false hm] at HT2
      have HE := Lib.hid (B1.out.trans (HX.out.below.mono B1.out.size))
      clear hm
      go_wp2_with fail
      refine (HT2.out wc).mono ?_; rintro e w' ⟨rfl, rfl⟩
      go_wp2_with fail
      go_ret
      exact ⟨rfl, HE.out⟩
end Go.Proofs.Ytlmnljijpgpmiaa
namespace Go.Proofs.Ytlmnljijpgpmiaa
open Go.ChangeShapes Go.WideShapes Go.Deep Go.RowKit
section
variable {H : Type} {enc : TypeId × Value → H} {w : World} {base : Nat} {spare : Nat → Bool} {held : Bool}
theorem leaf_slice11 {P : Program} {t e : TypeId} {v : Value} (ht : P.underlying t = some (.slice e)) (h : Leaf enc P w base spare held t v) : ∃ a len cap, v = .slice a len cap := by
  obtain ⟨m, y, hy⟩ := h
  rcases open_slice ht hy with ⟨he, _⟩ | ⟨a', len, cap, m, n', D, Pl, he, _⟩
  · simp only [List.cons.injEq, and_true] at he
    exact ⟨_, _, _, he⟩
  · simp only [List.cons.injEq, and_true] at he
    exact ⟨_, _, _, he⟩
theorem flatActP : flat Try.prog 6 43 = some [3, 3, 3, 3, 3, 2] := by kernel_rfl
theorem intsActP : ∀ u ∈ [3, 3, 3, 3, 3, 2], Try.prog.underlying u = some (.int .i64) := by
  intro u hu
  simp only [List.mem_cons, List.not_mem_nil, or_false] at hu
  rcases hu with h | h | h | h | h | h <;> rw [h]
  · exact Try.underlying3
  · exact Try.underlying3
  · exact Try.underlying3
  · exact Try.underlying3
  · exact Try.underlying3
  · exact Try.underlying2
theorem intsWrP : ∀ u ∈ [3, 2], Try.prog.underlying u = some (.int .i64) := by
  intro u hu
  simp only [List.mem_cons, List.not_mem_nil, or_false] at hu
  rcases hu with h | h <;> rw [h]
  · exact Try.underlying3
  · exact Try.underlying2
set_option maxRecDepth 100000 in
theorem open_backPlays {r : Reach} {b0 : Nat} {v : Value} {d : DataW H} {p : List MemPlace} (hv : Value.okWide Try.prog w r b0 62 v) (h : DataW.Trod enc Try.prog w base spare held 62 v d p) :
    ∃ (c0 n c2 c3 : Int) (mu : Bool) (c5 : Int) (a6 : Option Addr) (l6 k6 : Nat) (st : Int) (a1 : Option Addr) (l1 k1 : Nat) (q1 : Nat → Nat → Int) (cells ring : Int) (a2 : Option Addr) (l2 k2 : Nat) (q2 : Nat → Nat → Int), v = .agg #[.int .i64 c0, .int .i64 n, .int .i64 c2, .int .i64 c3, .bool mu, .int .i64 c5, .slice a6 l6 k6, .int .i64 st, .slice a1 l1 k1, .int .i64 cells, .int .i64 ring, .slice a2 l2 k2] ∧ Grid w a1 l1 2 q1 ∧ (∀ i j, I64 (q1 i j)) ∧ Grid w a2 l2 6 q2 ∧ (∀ i j, I64 (q2 i j)) ∧ InD d l1 ∧ InD d l2 := by
  obtain ⟨l, rfl, hl, hf⟩ := open_agg (n := 6) (ts := [3, 3, 3, 2, 4, 3, 34, 2, 22, 3, 3, 23]) (.inl ⟨_, Try.underlying62⟩) (by kernel_rfl) hv h
  obtain ⟨fuel, hfu⟩ := h
  match l, hl with
  | [y0, y1, y2, y3, y4, y5, y6, x1, x2, x3, x4, x5], _ =>
    obtain ⟨c0, rfl, _⟩ := leaf_int Try.underlying3 (hf 0 _ y0 rfl rfl)
    obtain ⟨n, rfl, _⟩ := leaf_int Try.underlying3 (hf 1 _ y1 rfl rfl)
    obtain ⟨c2, rfl, _⟩ := leaf_int Try.underlying3 (hf 2 _ y2 rfl rfl)
    obtain ⟨c3, rfl, _⟩ := leaf_int Try.underlying2 (hf 3 _ y3 rfl rfl)
    obtain ⟨mu, rfl⟩ := leaf_bool Try.underlying4 (hf 4 _ y4 rfl rfl)
    obtain ⟨c5, rfl, _⟩ := leaf_int Try.underlying3 (hf 5 _ y5 rfl rfl)
    obtain ⟨a6, l6, k6, rfl⟩ := leaf_slice11 Try.underlying34 (hf 6 _ y6 rfl rfl)
    obtain ⟨st, rfl, _⟩ := leaf_int Try.underlying2 (hf 7 _ x1 rfl rfl)
    obtain ⟨cells, rfl, _⟩ := leaf_int Try.underlying3 (hf 9 _ x3 rfl rfl)
    obtain ⟨ring, rfl, _⟩ := leaf_int Try.underlying3 (hf 10 _ x4 rfl rfl)
    obtain ⟨m1, z1, hz1, hin1⟩ := field_in (st := 22) (j := 2) (o := 8) Try.underlying62 (by kernel_rfl) (by kernel_rfl) hfu (v := x2) rfl
    obtain ⟨m2, z2, hz2, hin2⟩ := field_in (st := 23) (j := 5) (o := 11) Try.underlying62 (by kernel_rfl) (by kernel_rfl) hfu (v := x5) rfl
    obtain ⟨a1, l1, k1, q1, rfl, g1, g2, g3, g4, g5⟩ := open_gridS (n := 6) (sz := 2) (ts := [3, 2]) Try.underlying22 (by kernel_rfl) (by kernel_rfl) rfl (by decide) intsWrP hz1
    obtain ⟨a2, l2, k2, q2, rfl, t1, t2, t3, t4, t5⟩ := open_gridS (sz := 6) Try.underlying23 flatActP (by kernel_rfl) rfl (Nat.succ_pos 5) intsActP hz2
    exact ⟨c0, n, c2, c3, mu, c5, a6, l6, k6, st, a1, l1, k1, q1, cells, ring, a2, l2, k2, q2, rfl, g1, fun i j => I64.of_wf (g4 i j), t1, fun i j => I64.of_wf (t4 i j), hin1 _ g5, hin2 _ t5⟩
theorem backPlays_sizedW {ts : List TypeId} {ds : List (DataW H)} {i : Nat} {d : DataW H} {p : List MemPlace} {v : Value} {a : Option Addr} {len cap : Nat} (hz : (DataW.weightsEach Try.prog ts ds).all (· ≤ reachBytes) = true) (ht : ts[i]? = some 62) (hd : ds[i]? = some d) (h : DataW.Trod enc Try.prog w base spare held 62 v d p) (hv : v.cells.toList[8]? = some (.slice a len cap)) : len ≤ 8796093021952 := by
  have h1 := sized_field (st := 22) (j := 2) (o := 8) (B := 16) Try.underlying62 (by kernel_rfl) (by kernel_rfl) Try.underlying22 (by kernel_rfl) hz ht hd h hv
  omega
theorem backPlays_sized {ts : List TypeId} {ds : List (DataW H)} {i : Nat} {d : DataW H} {p : List MemPlace} {v : Value} {a : Option Addr} {len cap : Nat} (hz : (DataW.weightsEach Try.prog ts ds).all (· ≤ reachBytes) = true) (ht : ts[i]? = some 62) (hd : ds[i]? = some d) (h : DataW.Trod enc Try.prog w base spare held 62 v d p) (hv : v.cells.toList[11]? = some (.slice a len cap)) : len ≤ 2932031007402 := by
  have h1 := sized_field (st := 23) (j := 5) (o := 11) (B := 48) Try.underlying62 (by kernel_rfl) (by kernel_rfl) Try.underlying23 (by kernel_rfl) hz ht hd h hv
  omega
end
end Go.Proofs.Ytlmnljijpgpmiaa
