/- Layer 11: helpers of the walks; two machines beside one memory. -/
import Derived.Test.YtlmnljijpgpmiaaW11
import Derived.Test.YtlmnljijpgpmiaaRT
import Derived.Test.YtlmnljijpgpmiaaS11e
import Derived.Test.YtlmnljijpgpmiaaC2l
namespace Go.Proofs.Ytlmnljijpgpmiaa
open Go.RowKit
set_option linter.unusedVariables false
/-- What is asked for, fitted. -/
def fitW (q : Nat → Nat → Int) (n : Nat) : List (Int × Int) := (List.range n).map fun i => (pickZ (q i 0) 8, q i 1)
theorem fitW_len (q : Nat → Nat → Int) (n : Nat) : (fitW q n).length = n := by simp [fitW]
theorem fitW_succ (q : Nat → Nat → Int) (n : Nat) : wcells (fitW q (n + 1)) = wcells (fitW q n) ++ [.int .i64 (pickZ (q n 0) 8), .int .i64 (q n 1)] := by
  unfold wcells fitW
  rw [List.range_succ, List.map_append, List.flatMap_append]
  rfl
theorem fitW_ok (q : Nat → Nat → Int) (n : Nat) : ∀ y ∈ fitW q n, 0 ≤ y.1 ∧ y.1 < 8 := by
  intro y hy
  obtain ⟨i, _, rfl⟩ := List.mem_map.1 hy
  exact pickZ_range (q i 0) 8 (by decide)
theorem fitW_val (q : Nat → Nat → Int) (hq : ∀ i j, I64 (q i j)) (n : Nat) : ∀ y ∈ fitW q n, I64 y.2 := by
  intro y hy
  obtain ⟨i, _, rfl⟩ := List.mem_map.1 hy
  exact hq i 1
theorem two_news (w : World) (x0 x1 : Value) (T : TypeId) (b : Nat) (hb : b = w.heap.size) : ∀ j u, [x0, x1][j]? = some u → (w.alloc (.cells #[x0, x1] T)).cell? ((⟨b, 0, none⟩ : Addr).add j) = some u := by
  subst hb
  intro j u h
  match j, h with
  | 0, h => simp at h; subst h; simp [Addr.add]
  | 1, h => simp at h; subst h; simp [Addr.add]
  | j + 2, h => simp at h
theorem two_cell1 (a b : Int) : ∀ u ∈ [Value.int .i64 a, Value.int .i64 b], u.oneCell' = true := by
  intro u hu
  simp at hu
  rcases hu with rfl | rfl <;> rfl
theorem star_rmxy {R M X Y : HP} {w : World} {F : Nat → Prop} (h : Star (Star (Star R M) X) Y w F) : Star R (Star (Star M X) Y) w F := by
  obtain ⟨F1, FY, ⟨F2, FX, ⟨FR, FM, hr, hm, a1, a2⟩, hx, b1, b2⟩, hy, c1, c2⟩ := h
  refine ⟨FR, fun b => (FM b ∨ FX b) ∨ FY b, hr, ⟨fun b => FM b ∨ FX b, FY, ⟨FM, FX, hm, hx, fun _ => Iff.rfl, fun b k1 k2 => b2 b ((a1 b).2 (.inr k1)) k2⟩, hy, fun _ => Iff.rfl, fun b k1 k2 => c2 b ((b1 b).2 (k1.imp (fun k => (a1 b).2 (.inr k)) id)) k2⟩, fun b => ?_, fun b k1 k2 => ?_⟩
  · rw [c1 b, b1 b, a1 b]
    show ((FR b ∨ FM b) ∨ FX b) ∨ FY b ↔ FR b ∨ (FM b ∨ FX b) ∨ FY b
    simp only [or_assoc]
  · rcases k2 with (k2 | k2) | k2
    · exact a2 b k1 k2
    · exact b2 b ((a1 b).2 (.inl k1)) k2
    · exact c2 b ((b1 b).2 (.inl ((a1 b).2 (.inl k1)))) k2
theorem lift_swap11 {P : Program} {f : FuncId} {args : Array Value} {A A' X Y Y' : HP} {v : Ending} (gx : Good X) (h : Lifts P f args (Star A Y) (Star A' Y') v) : Lifts P f args (Star (Star A X) Y) (Star (Star A' X) Y') v := fun w F hO =>
  ((Lifts.left gx h) w F hO.swap).mono fun e w' ⟨e1, s⟩ => ⟨e1, s.imp fun _ => Star.swap⟩
theorem look_swap11 {P : Program} {f : FuncId} {args : Array Value} {A X Y : HP} {v : Ending} (h : Looks P f args (Star A Y) v) : Looks P f args (Star (Star A X) Y) v := fun w F hO => (Looks.left (B := X) h) w F hO.swap
/-- What both were made of. -/
structure OP where
  vl : Value
  vk : Value
  p : Nat
  x : Nat
  y : Nat
  n : Nat
  lx : Value
  ly : Value
  Wx : List (Int × Int)
  Wy : List (Int × Int)
structure OPOk (S : OP) : Prop where
  n : 2 ≤ S.n ∧ S.n ≤ 16
  lx : S.Wx.length ≤ 6
  ly : S.Wy.length ≤ 6
  cx : ∀ y ∈ S.Wx, 0 ≤ y.1 ∧ y.1 < ((8 : Nat) : Int)
  cy : ∀ y ∈ S.Wy, 0 ≤ y.1 ∧ y.1 < ((8 : Nat) : Int)
  ix : ∀ y ∈ S.Wx, I64 y.2
  iy : ∀ y ∈ S.Wy, I64 y.2
noncomputable abbrev O2 (S : OP) (l : List Acc) (bx bY : BK) : HP := Star (Star (RowH S.vl S.Wx) (RowH S.vk S.Wy)) (Star (KB S.p S.x 8 (mkD S.n 1 true S.lx S.Wx) l bx) (Star (RowH S.ly S.Wy) (BakH S.y (mkD S.n 2 true S.ly S.Wy) bY)))
theorem O2.good (S : OP) (l : List Acc) (bx bY : BK) : Good (O2 S l bx bY) := ((RowH.good _ _).star (RowH.good _ _)).star ((KB.good _ _ _ _ _ _).star ((RowH.good _ _).star (BakH.good _ _ _)))
/-- Both, behind at most c accesses. -/
def OrdB (w : World) (S : OP) (c : Nat) (l : List Acc) (bx bY : BK) (wr : World) : Prop := AtW w (O2 S l bx bY) wr ∧ OInv S.n S.Wx S.Wy bx bY l ∧ l.length ≤ c
section
variable {w wr w' : World} {S : OP} {c : Nat} {l : List Acc} {bx bY : BK}
theorem OrdB.below (h : OrdB w S c l bx bY wr) : Below w.heap.size w wr := h.1.below
theorem OrdB.calm (h : OrdB w S c l bx bY wr) (hb : Below wr.heap.size wr w') : OrdB w S c l bx bY w' := ⟨h.1.calm (O2.good _ _ _ _) hb, h.2⟩
theorem ord_bounds (hs : OPOk S) (h : OrdB w S c l bx bY wr) : muK 1 bx ≤ 17 ∧ muK 2 bY ≤ 17 := by
  have h1 := muK_le h.2.1.x.ok
  have h2 := muK_le h.2.1.y.ok
  have := hs.lx
  have := hs.ly
  omega
theorem ord_x (hs : OPOk S) (h : OrdB w S c l bx bY wr) (hc : c ≤ 2000000) (th : Int) :
    Calls Try.prog 11 #[.pointer (some ⟨S.x, 0, none⟩), .pointer (some ⟨S.p, 0, none⟩), .int .i64 th] wr fun e w' => (∃ z, e = .returned z) ∧ ∃ l' bx', OrdB w S (c + 1) l' bx' bY w' ∧ muK 1 bx' ≤ muK 1 bx - 1 := by
  obtain ⟨h1, h2, h3⟩ := h
  have hd : BDOk (mkD S.n 1 true S.lx S.Wx) := mkD_ok true S.lx (by have := hs.n; omega) hs.n.2 (by decide) (by decide) (by have := hs.lx; omega)
  by_cases h0 : bx.nx = 0
  · refine (Looks.at (O2.good _ _ _ _) (Looks.right (Looks.left (bakStep_nil S.p S.x S.n 8 (mkD S.n 1 true S.lx S.Wx) l bx th h0))) h1).mono ?_
    rintro e w' ⟨rfl, g⟩
    refine ⟨⟨_, rfl⟩, l, bx, ⟨g, h2, by omega⟩, ?_⟩
    unfold muK
    simp [h0]
  · obtain ⟨k1, k2⟩ := h2.elder hs.n.1 hs.n.2 h0 hs.ix th (wordOf l (addrK11 S.n 1 S.Wx bx).1 (addrK11 S.n 1 S.Wx bx).2.1 (addrK11 S.n 1 S.Wx bx).2.2)
    refine ((Lifts.right ((RowH.good _ _).star (RowH.good _ _)) (Lifts.left ((RowH.good _ _).star (BakH.good _ _ _)) (bakStep_any S.p S.x 8 (mkD S.n 1 true S.lx S.Wx) hd l (by omega) bx h2.x.ok h0 (.inr (mostZ_lt (fun y hy => (hs.cx y hy).2) 0 (by decide))) hs.cx th _ (h2.okw _ _ _) rfl))).at h1).mono ?_
    rintro e w' ⟨rfl, g⟩
    exact ⟨⟨_, rfl⟩, _, _, ⟨g, k1, by rw [List.length_append]; simp; omega⟩, Nat.le_of_eq (Nat.eq_sub_of_add_eq k2)⟩
theorem ord_y (hs : OPOk S) (h : OrdB w S c l bx bY wr) (hc : c ≤ 2000000) (th : Int) :
    Calls Try.prog 11 #[.pointer (some ⟨S.y, 0, none⟩), .pointer (some ⟨S.p, 0, none⟩), .int .i64 th] wr fun e w' => (∃ z, e = .returned z) ∧ ∃ l' bY', OrdB w S (c + 1) l' bx bY' w' ∧ (muK 1 bx = 0 → muK 2 bY' ≤ muK 2 bY - 1) := by
  obtain ⟨h1, h2, h3⟩ := h
  have hd : BDOk (mkD S.n 2 true S.ly S.Wy) := mkD_ok true S.ly (by have := hs.n; omega) hs.n.2 (by decide) (by decide) (by have := hs.ly; omega)
  by_cases h0 : bY.nx = 0
  · refine (Looks.at (O2.good _ _ _ _) (Looks.right (look_swap11 (A := MemH S.p S.n 8 l) (bakStep_nil S.p S.y S.n 8 (mkD S.n 2 true S.ly S.Wy) l bY th h0))) h1).mono ?_
    rintro e w' ⟨rfl, g⟩
    refine ⟨⟨_, rfl⟩, l, bY, ⟨g, h2, by omega⟩, fun _ => ?_⟩
    unfold muK
    simp [h0]
  · have k1 := h2.younger hs.n.1 hs.n.2 h0 hs.iy th _ rfl
    refine ((Lifts.right ((RowH.good _ _).star (RowH.good _ _)) (lift_swap11 (A := MemH S.p S.n 8 l) ((RowH.good _ _).star (BakH.good _ _ _)) (bakStep_any S.p S.y 8 (mkD S.n 2 true S.ly S.Wy) hd l (by omega) bY h2.y.ok h0 (.inr (mostZ_lt (fun y hy => (hs.cy y hy).2) 0 (by decide))) hs.cy th _ (h2.okw _ _ _) rfl))).at h1).mono ?_
    rintro e w' ⟨rfl, g⟩
    refine ⟨⟨_, rfl⟩, _, _, ⟨g, k1, by rw [List.length_append]; simp; omega⟩, fun hm => ?_⟩
    have hb0 := muK_zero h2.x.ok hm
    exact Nat.le_sub_of_add_le (live_step h2.y.ok (h2.old hb0) h0 (by decide) (by have := hs.n; omega) _ rfl).2
theorem ord_look {f : FuncId} {args : Array Value} {z : Ending} (h : OrdB w S c l bx bY wr) (hL : Looks Try.prog f args (Star (KB S.p S.x 8 (mkD S.n 1 true S.lx S.Wx) l bx) (Star (RowH S.ly S.Wy) (BakH S.y (mkD S.n 2 true S.ly S.Wy) bY))) z) :
    Calls Try.prog f args wr fun e w' => e = z ∧ OrdB w S c l bx bY w' := by
  have HF := Lib.hid h
  obtain ⟨⟨F, h1, _⟩, h2, h3⟩ := h
  refine ((Looks.right (A := Star (RowH S.vl S.Wx) (RowH S.vk S.Wy)) hL) wr F h1).mono ?_
  rintro e w' ⟨rfl, hb⟩
  exact ⟨rfl, HF.out.calm hb⟩
theorem ord_peek (h : OrdB w S c l bx bY wr) (k i j : Int) (ha : isA S.n 8 k i j) :
    Calls Try.prog 13 #[.pointer (some ⟨S.p, 0, none⟩), .agg #[.int .i64 k, .int .i64 i, .int .i64 j]] wr fun e w' => e = .returned (.tuple #[.int .i64 (wordOf l k i j), .int .i64 0]) ∧ OrdB w S c l bx bY w' :=
  ord_look h (Looks.left (Looks.left (peek_in S.p S.n 8 l k i j ha)))
theorem ord_left (h : OrdB w S c l bx bY wr) :
    Calls Try.prog 12 #[.pointer (some ⟨S.y, 0, none⟩)] wr fun e w' => e = .returned (.int .i64 bY.left) ∧ OrdB w S c l bx bY w' :=
  ord_look h (Looks.right (Looks.right (bakLeft_any S.y (mkD S.n 2 true S.ly S.Wy) bY)))
theorem ord_sigx (h : OrdB w S c l bx bY wr) :
    Calls Try.prog 15 #[.pointer (some ⟨S.x, 0, none⟩)] wr fun e w' => e = .returned (.agg #[.int .u64 ((ofS (S.Wx.map Prod.fst)) 0), .int .u64 ((ofS (S.Wx.map Prod.fst)) 1), .int .u64 ((ofS (S.Wx.map Prod.fst)) 2), .int .u64 ((ofS (S.Wx.map Prod.fst)) 3), .int .u64 ((ofS (S.Wx.map Prod.fst)) 4), .int .u64 ((ofS (S.Wx.map Prod.fst)) 5), .int .u64 ((ofS (S.Wx.map Prod.fst)) 6), .int .u64 ((ofS (S.Wx.map Prod.fst)) 7)]) ∧ OrdB w S c l bx bY w' :=
  ord_look h (Looks.left (Looks.right (Looks.right (bakSig_any S.x (mkD S.n 1 true S.lx S.Wx) bx))))
theorem ord_sigy (h : OrdB w S c l bx bY wr) :
    Calls Try.prog 15 #[.pointer (some ⟨S.y, 0, none⟩)] wr fun e w' => e = .returned (.agg #[.int .u64 ((ofS (S.Wy.map Prod.fst)) 0), .int .u64 ((ofS (S.Wy.map Prod.fst)) 1), .int .u64 ((ofS (S.Wy.map Prod.fst)) 2), .int .u64 ((ofS (S.Wy.map Prod.fst)) 3), .int .u64 ((ofS (S.Wy.map Prod.fst)) 4), .int .u64 ((ofS (S.Wy.map Prod.fst)) 5), .int .u64 ((ofS (S.Wy.map Prod.fst)) 6), .int .u64 ((ofS (S.Wy.map Prod.fst)) 7)]) ∧ OrdB w S c l bx bY w' :=
  ord_look h (Looks.right (Looks.right (bakSig_any S.y (mkD S.n 2 true S.ly S.Wy) bY)))
theorem OrdB.shows3 (hn : 2 ≤ S.n ∧ S.n ≤ 16) (h : OrdB w S c l bx bY wr) : (wordOf l 2 (2 % (S.n : Int)) 0 = 5 → wordOf l 2 (1 % (S.n : Int)) 0 = 3) ∧ ((!sigEq (andS (ofS (S.Wx.map Prod.fst)) (ofS (S.Wy.map Prod.fst))) noS) = true → wordOf l 2 (1 % (S.n : Int)) 0 ≠ 3 → bY.left = S.Wy.length) := by
  have h := h.2.1.shows
  unfold slotZ at h
  rw [if_pos (by omega), if_pos (by omega)] at h
  exact h
theorem ord_rows (h : OrdB w S c l bx bY wr) : wr.ownsRow 0 29 2 S.vl S.Wx.length (wcells S.Wx) ∧ wr.ownsRow 0 29 2 S.vk S.Wy.length (wcells S.Wy) := by
  obtain ⟨F1, q1, _⟩ := h.1.has.left.left
  obtain ⟨F2, q2, _⟩ := h.1.has.left.right
  exact ⟨q1, q2⟩
end
/-- How far both have gone. -/
def Prog (T i mx my : Nat) : Prop := (T ≤ i → mx + (i + 1) / 2 ≤ 17 + (T + 1) / 2 ∨ mx = 0) ∧ (T + 36 ≤ i → my + i / 2 ≤ 17 + (T + 36) / 2 ∨ my = 0)
theorem Prog.x {T i mx my mx' : Nat} (h : Prog T i mx my) (h1 : mx ≤ 17) (h2 : my ≤ 17) (hm : mx' ≤ mx - 1) (hp : T ≤ i → i % 2 = 0) : Prog T (i + 1) mx' my := by
  obtain ⟨k1, k2⟩ := h
  refine ⟨fun q => ?_, fun q => ?_⟩
  · by_cases hT : T ≤ i
    · have := hp hT
      rcases k1 hT with k | k <;> omega
    · omega
  · by_cases hT : T + 36 ≤ i
    · have := hp (by omega)
      rcases k2 hT with k | k <;> omega
    · omega
theorem Prog.y {T i mx my my' : Nat} (h : Prog T i mx my) (h1 : mx ≤ 17) (h2 : my' ≤ 17) (hm : mx = 0 → my' ≤ my - 1) (hp : T ≤ i → i % 2 = 1) : Prog T (i + 1) mx my' := by
  obtain ⟨k1, k2⟩ := h
  refine ⟨fun q => ?_, fun q => ?_⟩
  · by_cases hT : T ≤ i
    · have := hp hT
      rcases k1 hT with k | k <;> omega
    · omega
  · by_cases hT : T + 36 ≤ i
    · have := hp (by omega)
      have hx0 : mx = 0 := by rcases k1 (by omega) with k | k <;> omega
      have := hm hx0
      rcases k2 hT with k | k <;> omega
    · omega
theorem Prog.end {T mx my : Nat} (h : Prog T (T + 200) mx my) : mx = 0 ∧ my = 0 := by
  obtain ⟨k1, k2⟩ := h
  have a := k1 (by omega)
  have b := k2 (by omega)
  omega
theorem Prog.start (T mx my : Nat) (h1 : mx ≤ 17) (h2 : my ≤ 17) : Prog T 0 mx my := ⟨fun q => by omega, fun q => by omega⟩
end Go.Proofs.Ytlmnljijpgpmiaa
