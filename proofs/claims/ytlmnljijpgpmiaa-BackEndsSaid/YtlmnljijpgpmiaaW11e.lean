/- Layer 11: the walk of BackEnds. -/
import Derived.Test.YtlmnljijpgpmiaaW11
import Derived.Test.YtlmnljijpgpmiaaRT
import Derived.StillTailTactics
import Derived.Deep.RegionLaw
namespace Go.Proofs.Ytlmnljijpgpmiaa
open Go.RowKit
set_option linter.unusedVariables false
/-- What is asked for, fitted. -/
def fitW (q : Nat → Nat → Int) (n : Nat) : List (Int × Int) := (List.range n).map fun i => (pickZ (q i 0) 8, q i 1)
theorem fitW_len (q : Nat → Nat → Int) (n : Nat) : (fitW q n).length = n := by simp [fitW]
theorem fitW_succ (q : Nat → Nat → Int) (n : Nat) : wcells (fitW q (n + 1)) = wcells (fitW q n) ++ [.int .i64 (pickZ (q n 0) 8), .int .i64 (q n 1)] := by
  unfold wcells fitW
  rw [List.range_succ, List.map_append, List.flatMap_append]
  rfl
theorem fitW_ok (q : Nat → Nat → Int) (n : Nat) : ∀ y ∈ fitW q n, 0 ≤ y.1 ∧ y.1 < 8 := by
  intro y hy
  obtain ⟨i, _, rfl⟩ := List.mem_map.1 hy
  exact pickZ_range (q i 0) 8 (by decide)
theorem fitW_val (q : Nat → Nat → Int) (hq : ∀ i j, I64 (q i j)) (n : Nat) : ∀ y ∈ fitW q n, I64 y.2 := by
  intro y hy
  obtain ⟨i, _, rfl⟩ := List.mem_map.1 hy
  exact hq i 1
theorem two_news (w : World) (x0 x1 : Value) (T : TypeId) (b : Nat) (hb : b = w.heap.size) : ∀ j u, [x0, x1][j]? = some u → (w.alloc (.cells #[x0, x1] T)).cell? ((⟨b, 0, none⟩ : Addr).add j) = some u := by
  subst hb
  intro j u h
  match j, h with
  | 0, h => simp at h; subst h; simp [Addr.add]
  | 1, h => simp at h; subst h; simp [Addr.add]
  | j + 2, h => simp at h
theorem two_cell1 (a b : Int) : ∀ u ∈ [Value.int .i64 a, Value.int .i64 b], u.oneCell' = true := by
  intro u hu
  simp at hu
  rcases hu with rfl | rfl <;> rfl
theorem star_amb {A B M : HP} {w : World} {F : Nat → Prop} (h : Star (Star A B) M w F) : Star A (Star M B) w F := by
  obtain ⟨FAB, FM, ⟨FA, FB, ha, hb, h1, h2⟩, hm, h3, h4⟩ := h
  refine ⟨FA, fun b => FM b ∨ FB b, ha, ⟨FM, FB, hm, hb, fun _ => Iff.rfl, fun b k1 k2 => h4 b ((h1 b).2 (.inr k2)) k1⟩, fun b => ?_, fun b k1 k2 => ?_⟩
  · rw [h3 b, h1 b, or_assoc, or_comm (a := FB b)]
  · rcases k2 with k2 | k2
    · exact h4 b ((h1 b).2 (.inl k1)) k2
    · exact h2 b k1 k2
/-- The list and the machine beside its memory. -/
abbrev OB (v : Value) (p x : Nat) (d : BD) (l : List Acc) (b : BK) : HP := Star (RowH v d.W) (KB p x 8 d l b)
theorem OB.good (v : Value) (p x : Nat) (d : BD) (l : List Acc) (b : BK) : Good (OB v p x d l b) := (RowH.good _ _).star (KB.good _ _ _ _ _ _)
/-- Behind whatever acts. -/
def EndsB (w : World) (v : Value) (p x : Nat) (d : BD) (k : Nat) (wr : World) : Prop := ∃ l b, AtW w (OB v p x d l b) wr ∧ EInv d.n d.st d.s d.W b l ∧ l.length ≤ k
/-- What it was made of is as it must be. -/
structure DOk (d : BD) : Prop where
  ok : BDOk d
  most : d.W.length = 0 ∨ d.most < ((8 : Nat) : Int)
  cells : ∀ y ∈ d.W, 0 ≤ y.1 ∧ y.1 < ((8 : Nat) : Int)
  vals : ∀ y ∈ d.W, I64 y.2
theorem EndsB.below {w wr : World} {v : Value} {p x k : Nat} {d : BD} (h : EndsB w v p x d k wr) : Below w.heap.size w wr := by
  obtain ⟨l, b, h1, _⟩ := h
  exact h1.below
theorem EndsB.calm {w wr w' : World} {v : Value} {p x k : Nat} {d : BD} (h : EndsB w v p x d k wr) (hb : Below wr.heap.size wr w') : EndsB w v p x d k w' := by
  obtain ⟨l, b, h1, h2⟩ := h
  exact ⟨l, b, h1.calm (OB.good _ _ _ _ _ _) hb, h2⟩
theorem EndsB.up {w wr : World} {v : Value} {p x k : Nat} {d : BD} (h : EndsB w v p x d k wr) : EndsB w v p x d (k + 1) wr := by
  obtain ⟨l, b, h1, h2, h3⟩ := h
  exact ⟨l, b, h1, h2, by omega⟩
theorem endsB_step {w wr : World} {v : Value} {p x k : Nat} {d : BD} (hd : DOk d) (h : EndsB w v p x d k wr) (hk : k ≤ 2999999999000) (th : Int) :
    Calls Try.prog 11 #[.pointer (some ⟨x, 0, none⟩), .pointer (some ⟨p, 0, none⟩), .int .i64 th] wr fun e w' => (∃ z, e = .returned z) ∧ EndsB w v p x d (k + 1) w' := by
  obtain ⟨l, b, h1, h2, h3⟩ := h
  by_cases h0 : b.nx = 0
  · refine (Looks.at (OB.good _ _ _ _ _ _) (Looks.right (bakStep_nil p x d.n 8 d l b th h0)) h1).mono ?_
    rintro e w' ⟨rfl, g⟩
    exact ⟨⟨_, rfl⟩, l, b, g, h2, by omega⟩
  · refine ((Lifts.right (RowH.good _ _) (bakStep_any p x 8 d hd.ok l (by omega) b h2.ok h0 hd.most hd.cells th _ (h2.okw _ _ _) rfl)).at h1).mono ?_
    rintro e w' ⟨rfl, g⟩
    exact ⟨⟨_, rfl⟩, _, _, g, h2.step h0 hd.vals th _, by rw [List.length_append]; simp; omega⟩
theorem endsB_put {w wr : World} {v : Value} {p x k : Nat} {d : BD} (h : EndsB w v p x d k wr) (hk : k ≤ 2999999999000) (th a i j z : Int) (hz : I64 z) (ha : a = 2 ∨ a = 3) (hi : i ≠ slotZ d.st d.n) :
    Calls Try.prog 10 #[.pointer (some ⟨p, 0, none⟩), .int .i64 th, .agg #[.int .i64 a, .int .i64 i, .int .i64 j], .int .i64 z] wr fun e w' => (∃ z, e = .returned (.int .i64 z)) ∧ EndsB w v p x d (k + 1) w' := by
  obtain ⟨l, b, h1, h2, h3⟩ := h
  refine ((Lifts.right (RowH.good _ _) (KB.mem (x := x) (b := b) (store_any p d.n 8 l (by omega) th a i j z))).at h1).mono ?_
  rintro e w' ⟨rfl, g⟩
  have := putL_len d.n 8 l th a i j z
  exact ⟨⟨_, rfl⟩, _, _, g, h2.put th a i j z hz ha hi, by omega⟩
/-- The older heads up to t are told to be complete. -/
def OldsB (w : World) (v : Value) (p x : Nat) (d : BD) (k : Int) (t : Int) (wr : World) : Prop := ∃ l b, AtW w (OB v p x d l b) wr ∧ EInv d.n d.st d.s d.W b l ∧ (l.length : Int) ≤ k ∧ ∀ i, 1 ≤ i → d.st - d.n < i → i < t → wordOf l 2 (slotZ i d.n) 0 = 2 * i + 1
theorem OldsB.below {w wr : World} {v : Value} {p x : Nat} {k t : Int} {d : BD} (h : OldsB w v p x d k t wr) : Below w.heap.size w wr := by
  obtain ⟨l, b, h1, _⟩ := h
  exact h1.below
theorem EndsB.olds {w wr : World} {v : Value} {p x k : Nat} {d : BD} (h : EndsB w v p x d k wr) : OldsB w v p x d k (d.st - d.n + 1) wr := by
  obtain ⟨l, b, h1, h2, h3⟩ := h
  exact ⟨l, b, h1, h2, by omega, fun i _ h5 h6 => by omega⟩
theorem OldsB.skip {w wr : World} {v : Value} {p x : Nat} {k t : Int} {d : BD} (h : OldsB w v p x d k t wr) (ht : t < 1) : OldsB w v p x d (k + 1) (t + 1) wr := by
  obtain ⟨l, b, h1, h2, h3, h4⟩ := h
  exact ⟨l, b, h1, h2, by omega, fun i h5 h6 h7 => by omega⟩
theorem oldsB_put {w wr : World} {v : Value} {p x : Nat} {k t : Int} {d : BD} (hd : DOk d) (h : OldsB w v p x d k t wr) (hk : k ≤ 2999999999000) (h1 : 1 ≤ t) (h2 : d.st - d.n < t) (h3 : t < d.st) (ht : t ≤ 1000) :
    Calls Try.prog 10 #[.pointer (some ⟨p, 0, none⟩), .int .i64 (-1), .agg #[.int .i64 2, .int .i64 (slotZ t d.n), .int .i64 0], .int .i64 (2 * t + 1)] wr fun e w' => (∃ z, e = .returned (.int .i64 z)) ∧ OldsB w v p x d (k + 1) (t + 1) w' := by
  obtain ⟨l, b, g1, g2, g3, g4⟩ := h
  obtain ⟨n1, n2⟩ := hd.ok.n
  have hsl := slotZ_lt t d.n (by omega) (by omega)
  have ha : isA d.n 8 2 (slotZ t d.n) 0 := .inr (.inl ⟨rfl, hsl, rfl⟩)
  refine ((Lifts.right (RowH.good _ _) (KB.mem (x := x) (b := b) (store_in p d.n 8 l (by omega) (-1) 2 (slotZ t d.n) 0 (2 * t + 1) ha))).at g1).mono ?_
  rintro e w' ⟨rfl, g⟩
  have hz : I64 (2 * t + 1) := ⟨by omega, by omega⟩
  have g2' := g2.put (cells := 8) (-1) 2 (slotZ t d.n) 0 (2 * t + 1) hz (.inl rfl) (slot_apart n1 n2 h2 h3)
  unfold putL at g2'
  rw [if_pos ha] at g2'
  refine ⟨⟨_, rfl⟩, _, _, g, g2', by rw [List.length_append]; simp; omega, fun i h5 h6 h7 => ?_⟩
  rw [wordOf_st]
  unfold upd
  by_cases e : i = t
  · rw [e, if_pos ⟨rfl, rfl, rfl⟩]
  · rw [if_neg (fun q => slot_apart (st := t) (k := i) n1 n2 (by omega) (by omega) q.2.1)]
    exact g4 i h5 h6 (by omega)
/-- m steps more at most. -/
def LiveB (w : World) (v : Value) (p x : Nat) (d : BD) (m : Nat) (wr : World) : Prop := ∃ l b, AtW w (OB v p x d l b) wr ∧ EInv d.n d.st d.s d.W b l ∧ l.length + m ≤ 2999999999000 ∧ OldOk d.n d.st l ∧ muK d.st b ≤ m
theorem LiveB.below {w wr : World} {v : Value} {p x m : Nat} {d : BD} (h : LiveB w v p x d m wr) : Below w.heap.size w wr := by
  obtain ⟨l, b, h1, _⟩ := h
  exact h1.below
theorem LiveB.calm {w wr w' : World} {v : Value} {p x m : Nat} {d : BD} (h : LiveB w v p x d m wr) (hb : Below wr.heap.size wr w') : LiveB w v p x d m w' := by
  obtain ⟨l, b, h1, h2⟩ := h
  exact ⟨l, b, h1.calm (OB.good _ _ _ _ _ _) hb, h2⟩
theorem OldsB.live {w wr : World} {v : Value} {p x : Nat} {k : Int} {d : BD} (h : OldsB w v p x d k d.st wr) (hk : k ≤ 2999999998000) (hW : d.W.length ≤ 24) : LiveB w v p x d (d.W.length + 11) wr := by
  obtain ⟨l, b, h1, h2, h3, h4⟩ := h
  refine ⟨l, b, h1, h2, by omega, fun i h5 h6 h7 => ?_, muK_le h2.ok⟩
  rw [h4 i h5 h6 h7]
  unfold overB
  have e1 : (2 * i + 1) / 2 = i := by omega
  have e2 : (2 * i + 1) % 2 = 1 := by omega
  rw [e1, e2]
  simp
theorem liveB_step {w wr : World} {v : Value} {p x m : Nat} {d : BD} (hd : DOk d) (h : LiveB w v p x d (m + 1) wr) (th : Int) :
    Calls Try.prog 11 #[.pointer (some ⟨x, 0, none⟩), .pointer (some ⟨p, 0, none⟩), .int .i64 th] wr fun e w' => (∃ kd bb, e = .returned (ansV kd 0 0 bb) ∧ (kd = 0 ∨ kd = 2 ∨ kd = 3)) ∧ LiveB w v p x d m w' := by
  obtain ⟨l, b, h1, h2, h3, h4, h5⟩ := h
  by_cases h0 : b.nx = 0
  · refine (Looks.at (OB.good _ _ _ _ _ _) (Looks.right (bakStep_nil p x d.n 8 d l b th h0)) h1).mono ?_
    rintro e w' ⟨rfl, g⟩
    refine ⟨⟨0, false, rfl, .inl rfl⟩, l, b, g, h2, by omega, h4, ?_⟩
    unfold muK
    simp [h0]
  · obtain ⟨k1, k2⟩ := live_step h2.ok h4 h0 hd.ok.st.1 hd.ok.n.1 _ rfl
    refine ((Lifts.right (RowH.good _ _) (bakStep_any p x 8 d hd.ok l (by omega) b h2.ok h0 hd.most hd.cells th _ (h2.okw _ _ _) rfl)).at h1).mono ?_
    rintro e w' ⟨rfl, g⟩
    have hx := h2.ok.nx
    exact ⟨⟨_, true, rfl, .inr k1⟩, _, _, g, h2.step h0 hd.vals th _, by rw [List.length_append]; simp; omega, h4.step hd.ok.n.1 hd.ok.n.2 (by omega) hx th _, by omega⟩
/-- It is through. -/
def FinB (w : World) (v : Value) (p x : Nat) (d : BD) (l : List Acc) (wr : World) : Prop := ∃ b, AtW w (OB v p x d l b) wr ∧ b.nx = 0 ∧ b.left = 0
theorem FinB.calm {w wr w' : World} {v : Value} {p x : Nat} {l : List Acc} {d : BD} (h : FinB w v p x d l wr) (hb : Below wr.heap.size wr w') : FinB w v p x d l w' := by
  obtain ⟨b, h1, h2⟩ := h
  exact ⟨b, h1.calm (OB.good _ _ _ _ _ _) hb, h2⟩
theorem FinB.below {w wr : World} {v : Value} {p x : Nat} {l : List Acc} {d : BD} (h : FinB w v p x d l wr) : Below w.heap.size w wr := by
  obtain ⟨b, h1, _⟩ := h
  exact h1.below
theorem FinB.row {w wr : World} {v : Value} {p x : Nat} {l : List Acc} {d : BD} (h : FinB w v p x d l wr) : wr.ownsRow 0 29 2 v d.W.length (wcells d.W) := by
  obtain ⟨b, h1, _⟩ := h
  obtain ⟨F, h2, _⟩ := h1.has.left
  exact h2
theorem LiveB.fin {w wr : World} {v : Value} {p x : Nat} {d : BD} (h : LiveB w v p x d 0 wr) : ∃ l, FinB w v p x d l wr ∧ wordOf l 2 (slotZ d.st d.n) 0 = headZ d.st true ∧ ∀ c, wordOf l 4 c 0 = lastV d.W c := by
  obtain ⟨l, b, h1, h2, h3, h4, h5⟩ := h
  have h0 := muK_zero h2.ok (by omega : muK d.st b = 0)
  have hl := h2.ok.no (.inr (.inr h0))
  refine ⟨l, ⟨b, h1, h0, hl⟩, h2.fin h0, fun c => ?_⟩
  rw [h2.cells c, hl]; simp
theorem finB_look {w wr : World} {v : Value} {p x : Nat} {l : List Acc} {d : BD} {f : FuncId} {args : Array Value} {z : Ending} (h : FinB w v p x d l wr) (hL : ∀ b, b.nx = 0 → b.left = 0 → Looks Try.prog f args (KB p x 8 d l b) z) :
    Calls Try.prog f args wr fun e w' => e = z ∧ FinB w v p x d l w' ∧ Below wr.heap.size wr w' := by
  have HF := Lib.hid h
  obtain ⟨b, ⟨F, h1, _⟩, h2, h3⟩ := h
  refine ((Looks.right (A := RowH v d.W) (hL b h2 h3)) wr F h1).mono ?_
  rintro e w' ⟨rfl, hb⟩
  exact ⟨rfl, HF.out.calm hb, hb⟩
theorem finB_step {w wr : World} {v : Value} {p x : Nat} {l : List Acc} {d : BD} (h : FinB w v p x d l wr) (th : Int) :
    Calls Try.prog 11 #[.pointer (some ⟨x, 0, none⟩), .pointer (some ⟨p, 0, none⟩), .int .i64 th] wr fun e w' => e = .returned (ansV 0 0 0 false) ∧ FinB w v p x d l w' ∧ Below wr.heap.size wr w' :=
  finB_look h fun b h2 h3 => bakStep_nil p x d.n 8 d l b th h2
theorem finB_left {w wr : World} {v : Value} {p x : Nat} {l : List Acc} {d : BD} (h : FinB w v p x d l wr) :
    Calls Try.prog 12 #[.pointer (some ⟨x, 0, none⟩)] wr fun e w' => e = .returned (.int .i64 0) ∧ FinB w v p x d l w' ∧ Below wr.heap.size wr w' :=
  finB_look h fun b h2 h3 => by
    have := Looks.right (A := MemH p d.n 8 l) (Looks.right (A := RowH d.lv d.W) (bakLeft_any x d b))
    rw [h3] at this
    exact this
theorem finB_peek {w wr : World} {v : Value} {p x : Nat} {l : List Acc} {d : BD} (h : FinB w v p x d l wr) (k i j : Int) (ha : isA d.n 8 k i j) :
    Calls Try.prog 13 #[.pointer (some ⟨p, 0, none⟩), .agg #[.int .i64 k, .int .i64 i, .int .i64 j]] wr fun e w' => e = .returned (.tuple #[.int .i64 (wordOf l k i j), .int .i64 0]) ∧ FinB w v p x d l w' ∧ Below wr.heap.size wr w' :=
  finB_look h fun b h2 h3 => Looks.left (peek_in p d.n 8 l k i j ha)
theorem headZ_true (s : Int) (h1 : 1 ≤ s) (h2 : s ≤ 1000) : headZ s true = 2 * s + 1 := by
  unfold headZ wrap64
  simp
  omega
theorem lastV_take {W : List (Int × Int)} {k : Nat} {y : Int × Int} (h : W[k]? = some y) (c : Int) : lastV (W.take (k + 1)) c = if y.1 = c then y.2 else lastV (W.take k) c := by
  rw [take_next h, lastV_snoc]
set_option maxHeartbeats 8000000 in
set_option maxRecDepth 100000 in
theorem backEnds_law {w : World} (raw : Int) (mu : Bool) (stamp : Int) (a1 : Option Addr) (l1 c1 : Nat) (q1 : Nat → Nat → Int) (a2 : Option Addr) (l2 c2 : Nat) (q2 : Nat → Nat → Int) (hg1 : Grid w a1 l1 2 q1) (hq1 : ∀ i j, I64 (q1 i j)) (hg2 : Grid w a2 l2 6 q2) (hq2 : ∀ i j, I64 (q2 i j)) (hm1 : l1 ≤ 9223372036854775807) (hb2 : l2 ≤ 2932031007402) :
    Calls Try.prog 3 #[.agg #[.int .i64 raw, .bool mu, .int .i64 stamp, .slice a1 l1 c1, .slice a2 l2 c2]] w fun e w' => e = .returned (.bool true) ∧ Below w.heap.size w w' := by
  obtain ⟨i0, hi, hI0, hI1, hI2⟩ := info_parts infoWr
  have HG1 := Lib.hid hg1
  have HG2 := Lib.hid hg2
  have HQ1 := Lib.hid hq1
  have HQ2 := Lib.hid hq2
  have hp := pickZ_range raw 16 (by decide)
  obtain ⟨n, hn⟩ : ∃ n : Nat, 1 + pickZ raw 16 = n := ⟨(1 + pickZ raw 16).toNat, by omega⟩
  have hn1 : 1 ≤ n := by omega
  have hn2 : n ≤ 16 := by omega
  have HP := Lib.hid (pick_any raw 16 (by decide) (by decide))
  generalize pickZ raw 16 = pz at *
  obtain rfl : pz = (n : Int) - 1 := by omega
  have hps := pickZ_range stamp 1000 (by decide)
  have HPS := Lib.hid (pick_any stamp 1000 (by decide) (by decide))
  generalize pickZ stamp 1000 = ps at *
  obtain ⟨s, hs⟩ : ∃ s : Int, s = 1 + ps := ⟨_, rfl⟩
  obtain rfl : ps = s - 1 := by omega
  have hs1 : 1 ≤ s := by omega
  have hs2 : s ≤ 1000 := by omega
  have HPC : Hid (∀ x w, Calls Try.prog 7 #[.int .i64 x, .int .i64 8] w fun e w' => e = .returned (.int .i64 (pickZ x 8)) ∧ w = w') := fun x w => pick_any x 8 (by decide) (by decide) w
  have HB0 : Hid (∀ a, Below w.heap.size w (w.alloc a)) := fun a => (Below.refl _ _).alloc (Nat.le_refl _) _
  have e0 : (1 : Int) + ((n : Int) - 1) = n := by omega
  have e1 : (1 : Int) + (s - 1) = s := by omega
  have HM := Lib.hid (memNew_any 8 n (by decide) (by decide) hn1 (by omega))
  clear hg1 hg2 hq1 hq2 hp hn hps hs
  go_enter Try.func3, Try.ntmps3
  go_wp2_with fail
  refine (shown11_any _).mono ?_; rintro e w1 ⟨rfl, hb⟩
  have B1 := Lib.hid ((HB0.out _).trans (hb.mono (by simp)))
  clear hb HB0
  go_wp2_with fail
  refine (HP.out w1).mono ?_; rintro e w' ⟨rfl, rfl⟩
  go_wp2_with fail
  refine (HPS.out w1).mono ?_; rintro e w' ⟨rfl, rfl⟩
  clear HP HPS
  go_wp2_with fail
  go_loopw [11, 12] (fun v i wr => ∃ k : Nat, k ≤ l1 ∧ k ≤ 24 ∧ i = .int .i64 k ∧ w1.heap.size ≤ wr.heap.size ∧ wr.ownsRow w1.heap.size 29 2 v k (wcells (fitW q1 k)) ∧ Hid (Below w1.heap.size w1 wr)) (fun _ i _ => 24 - (intOf i).toNat)
  case atStart => exact ⟨0, by omega, by omega, rfl, by simp, World.ownsRow_nil _ _ _ _, Below.refl _ _⟩
  case round =>
    obtain ⟨k, hk, hk4, rfl, hsz, hown, HB⟩ := hrel
    by_cases hgo : k < l1 ∧ k < 24
    · have hlt := hgo.1
      have hlt4 := hgo.2
      obtain ⟨b, off, rfl, hbw, hcell⟩ := HG1.out.resolve_left (by omega)
      have hbel := B1.out.trans (HB.out.mono B1.out.size)
      have c0 := (hbel.cell (p := ⟨b, off + k * 2 + 0, none⟩) hbw).trans (hcell k hlt 0 (by omega))
      have c1 := (hbel.cell (p := ⟨b, off + k * 2 + 1, none⟩) hbw).trans (hcell k hlt 1 (by omega))
      have HN := Lib.hid (fitW_succ q1 k)
      have HO := Lib.hid hown
      simp only [Nat.add_zero] at c0
      clear hcell hown hbel hgo
      generalize q1 k 0 = x0 at *
      generalize q1 k 1 = x1 at *
      go_wp2_with fail
      go_region_law (first | (go_simp; go_at_call 7; refine (HPC.out _ _).mono ?_; rintro e w2 ⟨rfl, rfl⟩) | (refine step_append_lies _ (by rfl) (.tmp 58) (.tmp 71) 22 (by rfl) w1.heap.size 29 i0 (.agg #[.int .i64 0, .int .i64 0]) 2 16 Try.underlying22 hi hI0 hI1 hI2 (by rfl) (by decide) _ _ _ (by rfl) (World.ownsRow.alloc (w := wr.drew) HO.out _) ⟨wr.heap.size, 0, none⟩ 1 1 [.int .i64 (pickZ x0 8), .int .i64 x1] (by rfl) (by rfl) (two_news wr.drew _ _ _ _ rfl) (two_cell1 _ _) (by decide) (by unfold maxLen; omega) (by omega) (by simp; omega) _ rfl ?_; intro g2 c2 w2 hown2 hgrow hat hlt2))
      all_goals
        have HB2 : Hid (Below w1.heap.size w1 w2) := HB.out.trans ((((Below.refl _ _).drew).alloc (by simp; omega) _).grown hgrow (by simp; omega) (fun j hj => (HO.out.lt j hj).1))
        have hz4 := HB2.out.size
        rw [← HN.out] at hown2
        have HO2 := Lib.hid hown2
        clear hown2 hgrow hat
        go_wp2_with fail
        go_roundw
        case rel => exact ⟨k + 1, by omega, by omega, by go_num, by omega, HO2.out, HB2.out⟩
        case measure => simp [intOf]; omega
    · have HROW : Hid (AtW w1 (RowH u11 (fitW q1 k)) wr) := ⟨fun b => u11.ownBlock = some b, ⟨by rw [fitW_len]; exact own_base hown (fun _ _ => Nat.zero_le _), fun _ => Iff.rfl⟩, HB.out, fun b h => (hown.lt b h).1⟩
      have hcase : (¬ k < l1) ∨ (k < l1 ∧ ¬ k < 24) := by omega
      have HV : Hid (∀ y ∈ fitW q1 k, 0 ≤ y.1 ∧ y.1 < (8 : Int)) := fitW_ok q1 k
      have HV2 : Hid (∀ y ∈ fitW q1 k, I64 y.2) := fitW_val q1 HQ1.out k
      have HWOK : Hid (wOk (fitW q1 k)) := fun y hy => ⟨(fitW_ok q1 k y hy).1, by have := (fitW_ok q1 k y hy).2; omega⟩
      have HLEN : Hid ((fitW q1 k).length = k) := fitW_len q1 k
      have hown' : ∃ a c, u11 = .slice a k c := ownAt_form hown
      obtain ⟨va, vc, rfl⟩ := hown'
      have HN := Lib.hid (fun wx (hA : ArgW wx (.slice va k vc) (fitW q1 k)) => bakNew_any 0 n 0 0 mu 0 (.slice none 0 0) s (.slice va k vc) (fitW q1 k) wx hA hn1 hn2 hs1 (by omega) (by rw [fitW_len]; omega))
      clear hown hgo hk HB hI0 hI1 hI2 hi HPC HG1 HQ1
      generalize fitW q1 k = W at *
      rcases hcase with d1 | ⟨d1, d2⟩
      all_goals
        go_wp2_with fail
        refine (HN.out wr (by
          obtain ⟨F, h, _⟩ := HROW.out
          rw [← HLEN.out] at h ⊢
          exact h.arg)).mono ?_
        rintro e w3 hq
        obtain ⟨_, x, lv, rfl, h⟩ := hq.resolve_right (fun k => k.1 HWOK.out)
        have H3 := Lib.hid (HROW.out.new (RowH.good _ _) h)
        clear h hq HROW HN
        go_wp2_with fail
        refine (HM.out w3).mono ?_; rintro e w4 ⟨p, rfl, h⟩
        have hDK := mkD_ok mu lv (W := W) hn1 hn2 hs1 (by omega) (by rw [HLEN.out]; omega)
        obtain ⟨d, hd⟩ : ∃ d, d = mkD n s mu lv W := ⟨_, rfl⟩
        have HD : Hid (DOk d) := by
          rw [hd]
          exact ⟨hDK, .inr (mostZ_lt (fun y hy => (HV.out y hy).2) 0 (by decide)), HV.out, HV2.out⟩
        have HDE : Hid (d.n = n ∧ d.st = s ∧ d.W = W) := by rw [hd]; exact ⟨rfl, rfl, rfl⟩
        have H4 : Hid (EndsB w1 (.slice va k vc) p x d 0 w4) := by
          have h4 := (H3.out.new ((RowH.good _ _).star ((RowH.good _ _).star (BakH.good _ _ _))) h).imp (fun _ h => star_amb h)
          rw [hd]
          exact ⟨[], newK n mu s W, h4, EInv.new n hn1 mu s hs1 _ W, Nat.zero_le _⟩
        have HSL : Hid (slotZ d.st d.n = s % n) := by
          show _ = _
          rw [HDE.out.1, HDE.out.2.1]
          unfold slotZ
          rw [if_pos (by omega)]
        clear h H3 HM hDK hd
        go_wp2_with fail
        go_loopw [18] (fun i wr => ∃ j : Nat, j ≤ l2 ∧ i = .int .i64 j ∧ Hid (EndsB w1 (.slice va k vc) p x d j wr)) (fun i _ => l2 - (intOf i).toNat)
        case atStart => exact ⟨0, by omega, rfl, H4.out⟩
        case round =>
          obtain ⟨j, hj, rfl, HE⟩ := hrel
          clear H4
          by_cases hlt : j < l2
          · obtain ⟨b, off, rfl, hbw, hcell⟩ := HG2.out.resolve_left (by omega)
            have hbel := B1.out.trans (HE.out.below.mono B1.out.size)
            have c0 := (hbel.cell (p := ⟨b, off + j * 6 + 0, none⟩) hbw).trans (hcell j hlt 0 (by omega))
            simp only [Nat.add_zero] at c0
            have c2 := (hbel.cell (p := ⟨b, off + j * 6 + 2, none⟩) hbw).trans (hcell j hlt 2 (by omega))
            have c3 := (hbel.cell (p := ⟨b, off + j * 6 + 3, none⟩) hbw).trans (hcell j hlt 3 (by omega))
            have c4 := (hbel.cell (p := ⟨b, off + j * 6 + 4, none⟩) hbw).trans (hcell j hlt 4 (by omega))
            have c5 := (hbel.cell (p := ⟨b, off + j * 6 + 5, none⟩) hbw).trans (hcell j hlt 5 (by omega))
            clear hcell hbel
            by_cases h1 : q2 j 0 = 1
            · rw [h1] at c0
              by_cases h4 : q2 j 3 = s % n
              · have e4 : (q2 j 3 != s % n) = false := by simp [h4]
                by_cases h2 : q2 j 2 = 2
                · rw [h2] at c2
                  have H5 := Lib.hid HE.out.up
                  go_wp2_with fail
                  go_roundw
                  case rel => exact ⟨j + 1, by omega, by go_num, H5.out⟩
                  case measure => simp [intOf]; omega
                · by_cases h3 : q2 j 2 = 3
                  · rw [h3] at c2
                    have H5 := Lib.hid HE.out.up
                    go_wp2_with fail
                    go_roundw
                    case rel => exact ⟨j + 1, by omega, by go_num, H5.out⟩
                    case measure => simp [intOf]; omega
                  · clear h1
                    have H5 := Lib.hid HE.out.up
                    go_wp2_with fail
                    go_roundw
                    case rel => exact ⟨j + 1, by omega, by go_num, H5.out⟩
                    case measure => simp [intOf]; omega
              · by_cases h2 : q2 j 2 = 2
                · rw [h2] at c2
                  have HX := Lib.hid (endsB_put (HE.out.calm ((Below.refl _ _).drew)) (by omega) (-1) 2 (q2 j 3) (q2 j 4) (q2 j 5) (HQ2.out j 5) (.inl rfl) (by rw [HSL.out]; exact h4))
                  have e4 : (q2 j 3 != s % n) = true := by simp [h4]
                  clear h4
                  go_wp2_with fail
                  go_still_tail 11, (by kernel_rfl)
                  change wpList _ _ _ _ _ wr.drew
                  go_wp2_with fail
                  refine HX.out.mono ?_; rintro e w6 ⟨⟨z, rfl⟩, h⟩
                  have H5 := Lib.hid h
                  clear h HX c0 c2 c3 c4 c5
                  go_wp2_with fail
                  go_roundw
                  case rel => exact ⟨j + 1, by omega, by go_num, H5.out⟩
                  case measure => simp [intOf]; omega
                · by_cases h3 : q2 j 2 = 3
                  · rw [h3] at c2
                    have HX := Lib.hid (endsB_put (HE.out.calm ((Below.refl _ _).drew)) (by omega) (-1) 3 (q2 j 3) (q2 j 4) (q2 j 5) (HQ2.out j 5) (.inr rfl) (by rw [HSL.out]; exact h4))
                    have e4 : (q2 j 3 != s % n) = true := by simp [h4]
                    clear h4
                    go_wp2_with fail
                    go_still_tail 11, (by kernel_rfl)
                    change wpList _ _ _ _ _ wr.drew
                    go_wp2_with fail
                    refine HX.out.mono ?_; rintro e w6 ⟨⟨z, rfl⟩, h⟩
                    have H5 := Lib.hid h
                    clear h HX c0 c2 c3 c4 c5
                    go_wp2_with fail
                    go_roundw
                    case rel => exact ⟨j + 1, by omega, by go_num, H5.out⟩
                    case measure => simp [intOf]; omega
                  · have e4 : (q2 j 3 != s % n) = true := by simp [h4]
                    clear h1
                    have H5 := Lib.hid HE.out.up
                    go_wp2_with fail
                    go_roundw
                    case rel => exact ⟨j + 1, by omega, by go_num, H5.out⟩
                    case measure => simp [intOf]; omega
            · have e1 : (q2 j 0 == 1) = false := by simp [h1]
              by_cases h2 : q2 j 0 = 2
              · rw [h2] at c0
                have HX := Lib.hid (endsB_step HD.out HE.out (by omega) 1)
                clear h1 h2 e1
                go_wp2_with fail
                refine HX.out.mono ?_; rintro e w6 ⟨⟨z, rfl⟩, h⟩
                have H5 := Lib.hid h
                clear h HX c0 c2 c3 c4 c5
                go_wp2_with fail
                go_roundw
                case rel => exact ⟨j + 1, by omega, by go_num, H5.out⟩
                case measure => simp [intOf]; omega
              · have e2 : (q2 j 0 == 2) = false := by simp [h2]
                have H5 := Lib.hid HE.out.up
                go_wp2_with fail
                go_roundw
                case rel => exact ⟨j + 1, by omega, by go_num, H5.out⟩
                case measure => simp [intOf]; omega
          · obtain rfl : j = l2 := by omega
            have HO0 : Hid (OldsB w1 (.slice va k vc) p x d j (s - n + 1) wr) := by
              have h := HE.out.olds
              rw [HDE.out.1, HDE.out.2.1] at h
              exact h
            clear HE HG2 HQ2
            go_wp2_with fail
            go_loopw [19] (fun kk wr => ∃ t : Int, s - n + 1 ≤ t ∧ t ≤ s ∧ kk = .int .i64 t ∧ Hid (OldsB w1 (.slice va k vc) p x d (j + (t - (s - n + 1))) t wr)) (fun kk _ => (s - intOf kk).toNat)
            case atStart => exact ⟨s - n + 1, by omega, by omega, rfl, by
              have h := HO0.out
              rw [show (j : Int) + (s - n + 1 - (s - n + 1)) = j by omega]
              exact h⟩
            case round =>
              obtain ⟨t, ht1, ht2, rfl, HT⟩ := hrel
              clear HO0
              by_cases hlt : t < s
              · by_cases h1 : 1 ≤ t
                · have HX : Hid (Calls Try.prog 10 #[.pointer (some ⟨p, 0, none⟩), .int .i64 (-1), .agg #[.int .i64 2, .int .i64 (t % n), .int .i64 0], .int .i64 (2 * t + 1)] wr fun e w' => (∃ z, e = .returned (.int .i64 z)) ∧ OldsB w1 (.slice va k vc) p x d (j + (t - (s - n + 1)) + 1) (t + 1) w') := by
                    have h := oldsB_put HD.out HT.out (by omega) h1 (by rw [HDE.out.1, HDE.out.2.1]; omega) (by rw [HDE.out.2.1]; omega) (by omega)
                    have e : slotZ t d.n = t % n := by
                      rw [HDE.out.1]; unfold slotZ; rw [if_pos (by omega)]
                    rw [e] at h
                    exact h
                  go_wp2_with fail
                  refine HX.out.mono ?_; rintro e w6 ⟨⟨z, rfl⟩, h⟩
                  have H5 := Lib.hid h
                  clear h HX
                  go_wp2_with fail
                  go_roundw
                  case rel => exact ⟨t + 1, by omega, by omega, by go_num, by
                    have h := H5.out
                    rw [show (j : Int) + (t - (s - n + 1)) + 1 = j + (t + 1 - (s - n + 1)) by omega] at h
                    exact h⟩
                  case measure => simp [intOf]; omega
                · have H5 := Lib.hid (HT.out.skip (by omega))
                  go_wp2_with fail
                  go_roundw
                  case rel => exact ⟨t + 1, by omega, by omega, by go_num, by
                    have h := H5.out
                    rw [show (j : Int) + (t - (s - n + 1)) + 1 = j + (t + 1 - (s - n + 1)) by omega] at h
                    exact h⟩
                  case measure => simp [intOf]; omega
              · obtain rfl : s = t := by omega
                have HLV : Hid (LiveB w1 (.slice va k vc) p x d (k + 11) wr) := by
                  have h := HT.out
                  rw [← HDE.out.2.1] at h
                  have h2 := h.live (by rw [HDE.out.2.1]; omega) (by rw [HDE.out.2.2, HLEN.out]; omega)
                  rw [HDE.out.2.2, HLEN.out] at h2
                  exact h2
                clear HT
                go_wp2_with fail
                go_loopw [20] (fun i wr => ∃ m : Nat, m ≤ k + 11 ∧ i = .int .i64 m ∧ Hid (LiveB w1 (.slice va k vc) p x d (k + 11 - m) wr)) (fun i _ => k + 11 - (intOf i).toNat)
                case atStart => exact ⟨0, by omega, rfl, HLV.out⟩
                case round =>
                  obtain ⟨m, hm, rfl, HR⟩ := hrel
                  clear HLV
                  by_cases hlt2 : m < k + 11
                  · have hlt2i : (m : Int) < k + 11 := by omega
                    have hr := HR.out
                    rw [show k + 11 - m = (k + 11 - (m + 1)) + 1 by omega] at hr
                    have HX := Lib.hid (liveB_step HD.out hr 1)
                    clear hr
                    go_wp2_with fail
                    refine HX.out.mono ?_; rintro e w6 ⟨⟨kd, bb, rfl, hkd⟩, h⟩
                    have H5 : Hid (LiveB w1 (.slice va k vc) p x d (k + 11 - (m + 1)) (w6.alloc (.cells #[.int .i64 kd, .int .i64 0, .int .i64 0, .bool bb] 46))) := h.calm ((Below.refl _ _).alloc (Nat.le_refl _) _)
                    clear h HX
                    unfold ansV
                    rcases hkd with rfl | rfl | rfl
                    all_goals
                      go_wp2_with fail
                      go_roundw
                      case rel => exact ⟨m + 1, by omega, by go_num, H5.out⟩
                      case measure => simp [intOf]; omega
                  · obtain rfl : m = k + 11 := by omega
                    have hr := HR.out
                    rw [Nat.sub_self] at hr
                    obtain ⟨l, hF, hh, hc⟩ := hr.fin
                    rw [HSL.out, HDE.out.2.1, headZ_true s hs1 hs2] at hh
                    have HF := Lib.hid hF
                    have HH := Lib.hid hh
                    have HCE : Hid (∀ c, wordOf l 4 c 0 = lastV W c) := by rw [HDE.out.2.2] at hc; exact hc
                    clear hr HR hF hh hc
                    go_wp2_with fail
                    refine (finB_step HF.out 1).mono ?_; rintro e w6 ⟨rfl, h, hb6⟩
                    have hbx := heapAlloc w6 (.cells #[.int .i64 0, .int .i64 0, .int .i64 0, .bool false] 46)
                    have hbl : w6.heap.size < (w6.alloc (.cells #[.int .i64 0, .int .i64 0, .int .i64 0, .bool false] 46)).heap.size := by simp
                    have HF6 := Lib.hid (h.calm ((Below.refl _ _).alloc (Nat.le_refl _) (.cells #[.int .i64 0, .int .i64 0, .int .i64 0, .bool false] 46)))
                    clear h hb6 HF
                    unfold ansV
                    go_wp2_with fail
                    generalize w6.alloc (.cells #[.int .i64 0, .int .i64 0, .int .i64 0, .bool false] 46) = w7 at *
                    refine (finB_left HF6.out).mono ?_; rintro e w8 ⟨rfl, h, hb⟩
                    have hbx8 := (hb.block _ hbl).trans hbx
                    have hbl8 := Nat.lt_of_lt_of_le hbl hb.size
                    have HF8 := Lib.hid h
                    have hmod : 0 ≤ s % n ∧ s % n < n := ⟨Int.emod_nonneg _ (by omega), Int.emod_lt_of_pos _ (by omega)⟩
                    have HPK := Lib.hid (finB_peek h 2 (s % n) 0 (by rw [HDE.out.1]; exact .inr (.inl ⟨rfl, hmod, rfl⟩)))
                    rw [HH.out] at HPK
                    clear h hb hbx hbl HF6
                    go_wp2_with fail
                    refine HPK.out.mono ?_; rintro e w9 ⟨rfl, h, hb⟩
                    obtain ⟨z0, z1, z2, z3, zz⟩ := four_cells ((hb.block _ hbl8).trans hbx8)
                    have HF9 := Lib.hid h
                    clear h hb hbx8 hbl8 HF8 HPK HH
                    have HFL : Hid (∀ wa wb, FinB w1 (.slice va k vc) p x d l wa → Below wa.heap.size wa wb → FinB w1 (.slice va k vc) p x d l wb) := fun _ _ h hb => h.calm hb
                    have HRW : Hid (∀ wa (i : Nat) (y : Int × Int), FinB w1 (.slice va k vc) p x d l wa → W[i]? = some y → ∃ g, va = some ⟨g, 0, none⟩ ∧ wa.cell? ⟨g, i * 2, none⟩ = some (.int .i64 y.1) ∧ wa.cell? ⟨g, i * 2 + 1, none⟩ = some (.int .i64 y.2)) := by
                      intro wa i y h hy
                      have hr := h.row
                      rw [HDE.out.2.2] at hr
                      obtain ⟨g, c', hv, q0, q1⟩ := row_at hr hy
                      simp only [Value.slice.injEq] at hv
                      exact ⟨g, hv.1, q0, q1⟩
                    go_wp2_with fail
                    go_loopw [26] (fun i wr => ∃ m : Nat, m ≤ k ∧ i = .int .i64 m ∧ Hid (FinB w1 (.slice va k vc) p x d l wr)) (fun i _ => k - (intOf i).toNat)
                    case atStart => exact ⟨0, by omega, rfl, HF9.out⟩
                    case round =>
                      obtain ⟨m, hm, rfl, HG⟩ := hrel
                      clear HF9
                      by_cases hlt3 : m < k
                      · obtain ⟨⟨c, vl⟩, hy⟩ : ∃ y, W[m]? = some y := ⟨_, List.getElem?_eq_getElem (by rw [HLEN.out]; exact hlt3)⟩
                        obtain ⟨g, rfl, f0, f1⟩ := HRW.out _ _ _ HG.out hy
                        have HLV0 := Lib.hid (lastV_take hy c)
                        rw [if_pos rfl] at HLV0
                        have hcc := HV.out _ (List.mem_of_getElem? hy)
                        have HY := Lib.hid hy
                        clear hy
                        go_wp2_with fail
                        go_loopw [27, 28] (fun vv i wq => ∃ r : Nat, m + 1 ≤ r ∧ r ≤ k ∧ i = .int .i64 r ∧ vv = .int .i64 (lastV (W.take r) c) ∧ Hid (FinB w1 (.slice (some ⟨g, 0, none⟩) k vc) p x d l wq)) (fun _ i _ => k - (intOf i).toNat)
                        case atStart => exact ⟨m + 1, Nat.le_refl _, by omega, by go_num, by rw [HLV0.out], HG.out⟩
                        case round =>
                          obtain ⟨r, hr1, hr2, rfl, rfl, HQ⟩ := hrel
                          clear f0 f1 HG
                          by_cases hlt4 : r < k
                          · obtain ⟨⟨c2', v2'⟩, hy⟩ : ∃ y, W[r]? = some y := ⟨_, List.getElem?_eq_getElem (by rw [HLEN.out]; exact hlt4)⟩
                            obtain ⟨g', hg', f0, f1⟩ := HRW.out _ _ _ HQ.out hy
                            obtain rfl : g = g' := by simpa using hg'
                            obtain ⟨g', hg'', e0', e1'⟩ := HRW.out _ _ _ HQ.out HY.out
                            obtain rfl : g = g' := by simpa using hg''
                            have HLV1 := Lib.hid (lastV_take hy c)
                            have HY2 := Lib.hid hy
                            clear hy hg' hg'' e1'
                            have hrk : (r : Int) < k := by omega
                            have hmk : (m : Int) < k := by omega
                            by_cases hcq : c2' = c
                            · subst hcq
                              rw [if_pos rfl] at HLV1
                              go_wp2_with fail
                              go_quiet (fail)
                              have HQ2 := Lib.hid (HFL.out _ _ HQ.out (below_drewN (Below.refl wr.heap.size wr) nq))
                              clear f0 f1 e0' HQ
                              obtain ⟨g', hg', f0, f1⟩ := HRW.out _ _ _ HQ2.out HY2.out
                              obtain rfl : g = g' := by simpa using hg'
                              clear hg'
                              generalize wr.drewN nq = wz at *
                              go_wp2_with fail
                              go_roundw
                              case rel => exact ⟨r + 1, by omega, by omega, by go_num, by rw [HLV1.out], HQ2.out⟩
                              case measure => simp [intOf]; omega
                            · rw [if_neg hcq] at HLV1
                              have e9 : (c2' == c) = false := by simp [hcq]
                              clear hcq
                              go_wp2_with fail
                              go_quiet (fail)
                              have HQ2 := Lib.hid (HFL.out _ _ HQ.out (below_drewN (Below.refl wr.heap.size wr) nq))
                              clear f0 f1 e0' HQ
                              generalize wr.drewN nq = wz at *
                              go_wp2_with fail
                              go_roundw
                              case rel => exact ⟨r + 1, by omega, by omega, by go_num, by rw [HLV1.out], HQ2.out⟩
                              case measure => simp [intOf]; omega
                          · obtain rfl : r = k := by omega
                            obtain ⟨g', hg', f0, f1⟩ := HRW.out _ _ _ HQ.out HY.out
                            obtain rfl : g = g' := by simpa using hg'
                            have HPK := Lib.hid (finB_peek HQ.out 4 c 0 (.inr (.inr (.inr ⟨rfl, hcc, rfl⟩))))
                            have HTK : Hid (lastV (W.take r) c = lastV W c) := by
                              show _ = _
                              rw [← HLEN.out]; simp
                            rw [HCE.out c] at HPK
                            rw [HTK.out]
                            clear hg'
                            go_wp2_with fail
                            refine HPK.out.mono ?_; rintro e wz ⟨rfl, h, hb⟩
                            have HZ := Lib.hid h
                            clear h hb f0 f1 HPK HQ
                            go_wp2_with fail
                            go_roundw
                            case rel => exact ⟨m + 1, by omega, by go_num, HZ.out⟩
                            case measure => simp [intOf]; omega
                      · obtain rfl : m = k := by omega
                        have HBE := Lib.hid (B1.out.trans (HG.out.below.mono B1.out.size))
                        go_wp2_with fail
                        go_ret
                        exact ⟨rfl, HBE.out⟩
end Go.Proofs.Ytlmnljijpgpmiaa
