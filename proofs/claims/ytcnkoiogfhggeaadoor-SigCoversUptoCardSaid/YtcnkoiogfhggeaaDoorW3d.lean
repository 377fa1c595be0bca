/- The walk of SigCovers. -/
import Derived.Test.YtcnkoiogfhggeaaDoorS2g
import Derived.Test.YtcnkoiogfhggeaaDoorC2p
import Derived.Test.YtcnkoiogfhggeaaDoorRT
import Derived.Laws.AppendOwnNone
import Derived.Maps.AppendAt
import Derived.StillTailTactics
import Derived.BigQuiet
import Derived.Deep.QuietTactic
namespace Go.Proofs.YtcnkoiogfhggeaaDoor
open Go.RowKit
set_option linter.unusedVariables false
theorem bAt (w : World) (o : Obj) : (w.alloc o).heap[w.heap.size]? = some o := by
  unfold World.alloc
  simp
theorem bOld {w : World} {b : Nat} {o : Obj} (h : w.heap[b]? = some o) (o2 : Obj) : (w.alloc o2).heap[b]? = some o := by
  rw [Below.heap_alloc _ _ _ (by rcases Nat.lt_or_ge b w.heap.size with h1 | h1; exact h1; rw [Array.getElem?_eq_none h1] at h; cases h)]
  exact h
theorem ints_grid3 {w : World} {a : Option Addr} {len : Nat} {q : Nat → Nat → Int} (h : Grid w a len 1 q) : ∃ zs, IntsAt w a len zs := by
  refine ⟨(List.range len).map (fun i => q i 0), by simp, h.imp id ?_⟩
  rintro ⟨b, off, e, hb, hc⟩
  refine ⟨b, off, e, hb, fun i hi => ?_⟩
  have h := hc i hi 0 (by omega)
  rw [Nat.mul_one, Nat.add_zero] at h
  rw [h]
  congr 2
  simp [List.getD, hi]
theorem app_none {w : World} {B : Nat} {v : Value} {n : Nat} {xs : List Value} {ty : TypeId} (c : Nat) (h : w.ownsRow B 3 1 v n xs) : (Builtin.append_ #[22, 22] ty #[v, .slice none 0 c]).run Tryd.prog w = .ok v w := by
  obtain ⟨i0, hi, hz0, hz1, hz2⟩ := info_parts infoInt
  rcases h.2 with ⟨rfl, _⟩ | ⟨g, cap, cur, rfl, _, _, hn, _⟩
  · simp [Builtin.append_, run_underlying Tryd.underlying22, Go.sizeOf, typeInfo, hi, Builtin.lenOf, Builtin.firstCells]
  · simp [Builtin.append_, run_underlying Tryd.underlying22, Go.sizeOf, typeInfo, hi, Builtin.lenOf, Builtin.firstCells, hn, storeCells]
/-- Numbers are appended, of whatever slice. -/
theorem wpL_ints {w : World} {ops : Array Oper} {rest : List Oper} {o : Oper} {a : Act} {Q : Exit → Act → World → Prop} (hgd : o.guard = none) (s x : Operand)
    (ho : o.op = .call { callee := .builtin .append, args := #[s, x], argTypes := #[22, 22] }) {B : Nat} {v : Value} {n : Nat} {xs : List Int} (hs : a.eval s = v) (hown : w.ownsRow B 3 1 v n (xs.map (Value.int .i64)))
    {A : Option Addr} {m c : Nat} {ys : List Int} (hx : a.eval x = .slice A m c) (hi : IntsAt w A m ys) (hb : n + m ≤ 4194304) (hB : B ≤ w.heap.size)
    (h : ∀ v' w', w'.ownsRow B 3 1 v' (n + m) ((xs ++ ys).map (Value.int .i64)) → w.grownBy w' v.ownBlock → (v'.ownBlock = v.ownBlock ∨ v'.ownBlock = some w.heap.size) → wpList Tryd.prog ops Q rest (a.put o.dst v') w') : wpList Tryd.prog ops Q (o :: rest) a w := by
  obtain ⟨i0, hI, hz0, hz1, hz2⟩ := info_parts infoInt
  obtain ⟨hl, hc⟩ := hi
  cases A with
  | none =>
    obtain rfl : m = 0 := by
      rcases hc with hc | ⟨b, off, e, _⟩
      · exact hc
      · cases e
    obtain rfl : ys = [] := List.eq_nil_of_length_eq_zero hl
    refine wpList_plain hgd fun K hK => ?_
    have hrun := app_none (ty := o.type) c hown
    unfold Oper.wp
    simp [execOp, ho, resolve, invoke, builtin, hs, hx, hrun, Result.andThen]
    exact hK _ _ (h v w (by simpa using hown) (World.grownBy.refl w _) (.inl rfl))
  | some ad =>
    refine wpList_append_own_at w hgd s x _ ho B 3 i0 _ 1 8 Tryd.underlying22 hI hz0 hz1 hz2 rfl (by decide) v n _ hs hown ad m c (ys.map (Value.int .i64)) hx (by simp [hl]) (fun j u hj => ?_) (fun u hu => ?_) (by unfold maxLen; omega) (by omega) hB (fun v' w' k1 k2 _ k3 => h v' w' (by rw [List.map_append]; exact k1) k2 k3)
    · rw [List.getElem?_map] at hj
      have hjl : j < m := by
        rcases Nat.lt_or_ge j ys.length with h | h
        · omega
        · rw [List.getElem?_eq_none h] at hj; cases hj
      rcases hc with hc | ⟨b, off, e, _, hc⟩
      · omega
      · obtain rfl := Option.some.inj e
        have hg := hc j hjl
        rw [List.getElem?_eq_getElem (by omega)] at hj
        simp only [Option.map_some, Option.some.injEq] at hj
        rw [← hj]
        have hg2 : w.cell? (Addr.add ⟨b, off, none⟩ j) = w.cell? ⟨b, off + j, none⟩ := by
          cases j
          · simp [Addr.add]
          · simp [Addr.add]
        rw [hg2, hg]
        simp [List.getD, List.getElem?_eq_getElem (show j < ys.length by omega)]
    · obtain ⟨z, _, rfl⟩ := List.mem_map.1 hu
      rfl
set_option maxRecDepth 100000 in
set_option maxHeartbeats 8000000 in
/-- The walk over plain words. -/
theorem covers_core {w : World} (a0 : Option Addr) (l0 c0 : Nat) (zs : List Int) (a1 : Option Addr) (l1 c1 : Nat) (ys : List Int) (cell : Int) (s t u x y : Nat → Int) (mt : Bool) (HT : Hid (Tab w))
    (HZ : Hid (IntsAt w a0 l0 zs)) (HY : Hid (IntsAt w a1 l1 ys)) (hb0 : l0 ≤ 1048576) (hb1 : l1 ≤ 1048576)
    (HO1 : Hid (∀ W, Below w.heap.size w W → Calls Tryd.prog 11 #[.slice a0 l0 c0] W fun e w' => e = .returned (.agg #[.int .u64 (s 0), .int .u64 (s 1), .int .u64 (s 2), .int .u64 (s 3), .int .u64 (s 4), .int .u64 (s 5), .int .u64 (s 6), .int .u64 (s 7)]) ∧ Below W.heap.size W w'))
    (HO2 : Hid (∀ W, Below w.heap.size w W → Calls Tryd.prog 11 #[.slice a1 l1 c1] W fun e w' => e = .returned (.agg #[.int .u64 (t 0), .int .u64 (t 1), .int .u64 (t 2), .int .u64 (t 3), .int .u64 (t 4), .int .u64 (t 5), .int .u64 (t 6), .int .u64 (t 7)]) ∧ Below W.heap.size W w'))
    (HU : Hid (∀ W, Calls Tryd.prog 22 #[(.agg #[.int .u64 (s 0), .int .u64 (s 1), .int .u64 (s 2), .int .u64 (s 3), .int .u64 (s 4), .int .u64 (s 5), .int .u64 (s 6), .int .u64 (s 7)]), (.agg #[.int .u64 (t 0), .int .u64 (t 1), .int .u64 (t 2), .int .u64 (t 3), .int .u64 (t 4), .int .u64 (t 5), .int .u64 (t 6), .int .u64 (t 7)])] W fun e w' => e = .returned (.agg #[.int .u64 (u 0), .int .u64 (u 1), .int .u64 (u 2), .int .u64 (u 3), .int .u64 (u 4), .int .u64 (u 5), .int .u64 (u 6), .int .u64 (u 7)]) ∧ Below W.heap.size W w'))
    (HO3 : Hid (∀ W A c, IntsAt W A (l0 + l1) (zs ++ ys) → Calls Tryd.prog 11 #[.slice A (l0 + l1) c] W fun e w' => e = .returned (.agg #[.int .u64 (u 0), .int .u64 (u 1), .int .u64 (u 2), .int .u64 (u 3), .int .u64 (u 4), .int .u64 (u 5), .int .u64 (u 6), .int .u64 (u 7)]) ∧ Below W.heap.size W w'))
    (HH1 : Hid (∀ k W, k < l0 → Calls Tryd.prog 15 #[(.agg #[.int .u64 (s 0), .int .u64 (s 1), .int .u64 (s 2), .int .u64 (s 3), .int .u64 (s 4), .int .u64 (s 5), .int .u64 (s 6), .int .u64 (s 7)]), .int .i64 (zs.getD k 0)] W fun e w' => e = .returned (.bool true) ∧ Below W.heap.size W w'))
    (HH2 : Hid (∀ k W, k < l0 → Calls Tryd.prog 15 #[(.agg #[.int .u64 (u 0), .int .u64 (u 1), .int .u64 (u 2), .int .u64 (u 3), .int .u64 (u 4), .int .u64 (u 5), .int .u64 (u 6), .int .u64 (u 7)]), .int .i64 (zs.getD k 0)] W fun e w' => e = .returned (.bool true) ∧ Below W.heap.size W w'))
    (HM : Hid (∀ W, Calls Tryd.prog 26 #[(.agg #[.int .u64 (s 0), .int .u64 (s 1), .int .u64 (s 2), .int .u64 (s 3), .int .u64 (s 4), .int .u64 (s 5), .int .u64 (s 6), .int .u64 (s 7)]), (.agg #[.int .u64 (t 0), .int .u64 (t 1), .int .u64 (t 2), .int .u64 (t 3), .int .u64 (t 4), .int .u64 (t 5), .int .u64 (t 6), .int .u64 (t 7)])] W fun e w' => e = .returned (.bool mt) ∧ Below W.heap.size W w'))
    (HMT : Hid (∀ k j, k < l0 → j < l1 → zs.getD k 0 = ys.getD j 0 → mt = true))
    (HX : Hid (∀ W, Calls Tryd.prog 13 #[(.agg #[.int .u64 (s 0), .int .u64 (s 1), .int .u64 (s 2), .int .u64 (s 3), .int .u64 (s 4), .int .u64 (s 5), .int .u64 (s 6), .int .u64 (s 7)]), .int .i64 cell] W fun e w' => e = .returned (.agg #[.int .u64 (x 0), .int .u64 (x 1), .int .u64 (x 2), .int .u64 (x 3), .int .u64 (x 4), .int .u64 (x 5), .int .u64 (x 6), .int .u64 (x 7)]) ∧ Below W.heap.size W w'))
    (HYY : Hid (∀ W, Calls Tryd.prog 13 #[(.agg #[.int .u64 (t 0), .int .u64 (t 1), .int .u64 (t 2), .int .u64 (t 3), .int .u64 (t 4), .int .u64 (t 5), .int .u64 (t 6), .int .u64 (t 7)]), .int .i64 cell] W fun e w' => e = .returned (.agg #[.int .u64 (y 0), .int .u64 (y 1), .int .u64 (y 2), .int .u64 (y 3), .int .u64 (y 4), .int .u64 (y 5), .int .u64 (y 6), .int .u64 (y 7)]) ∧ Below W.heap.size W w'))
    (HXY : Hid (∀ W, Calls Tryd.prog 26 #[(.agg #[.int .u64 (x 0), .int .u64 (x 1), .int .u64 (x 2), .int .u64 (x 3), .int .u64 (x 4), .int .u64 (x 5), .int .u64 (x 6), .int .u64 (x 7)]), (.agg #[.int .u64 (y 0), .int .u64 (y 1), .int .u64 (y 2), .int .u64 (y 3), .int .u64 (y 4), .int .u64 (y 5), .int .u64 (y 6), .int .u64 (y 7)])] W fun e w' => e = .returned (.bool true) ∧ Below W.heap.size W w'))
    (HXC : Hid (∀ W, Calls Tryd.prog 15 #[(.agg #[.int .u64 (x 0), .int .u64 (x 1), .int .u64 (x 2), .int .u64 (x 3), .int .u64 (x 4), .int .u64 (x 5), .int .u64 (x 6), .int .u64 (x 7)]), .int .i64 cell] W fun e w' => e = .returned (.bool true) ∧ Below W.heap.size W w')) :
    Calls Tryd.prog 7 #[.slice a0 l0 c0, .slice a1 l1 c1, .int .i64 cell] w fun e w' => e = .returned (.bool true) ∧ Below w.heap.size w w' := by
  have heq := run_sig_eq
  go_enter Tryd.func7, Tryd.ntmps7
  go_wp2_with fail
  refine (shown2_any _ HT.out).mono ?_; rintro e w1 ⟨rfl, hb⟩
  have B1 := Lib.hid hb
  clear hb
  go_wp2_with fail
  refine (HO1.out _ B1.out).mono ?_; rintro e w2 ⟨rfl, hb⟩
  have hs1 := B1.out.size
  have hs2 := hb.size
  obtain ⟨v2, hv2⟩ : ∃ v2, v2 = w2.alloc (.cells #[.int .u64 (s 0), .int .u64 (s 1), .int .u64 (s 2), .int .u64 (s 3), .int .u64 (s 4), .int .u64 (s 5), .int .u64 (s 6), .int .u64 (s 7)] 25) := ⟨_, rfl⟩
  have B2 : Hid (Below w.heap.size w v2) := by rw [hv2]; exact (B1.out.trans (hb.mono hs1)).alloc (by omega) _
  have S2 : Hid (v2.heap[w2.heap.size]? = some (.cells #[.int .u64 (s 0), .int .u64 (s 1), .int .u64 (s 2), .int .u64 (s 3), .int .u64 (s 4), .int .u64 (s 5), .int .u64 (s 6), .int .u64 (s 7)] 25)) := by rw [hv2]; exact bAt _ _
  have z2 : v2.heap.size = w2.heap.size + 1 := by rw [hv2]; simp
  clear hb
  go_wp2_with fail
  rw [← hv2]
  refine (HO2.out _ B2.out).mono ?_; rintro e w3 ⟨rfl, hb⟩
  have hs3 := hb.size
  obtain ⟨v3, hv3⟩ : ∃ v3, v3 = w3.alloc (.cells #[.int .u64 (t 0), .int .u64 (t 1), .int .u64 (t 2), .int .u64 (t 3), .int .u64 (t 4), .int .u64 (t 5), .int .u64 (t 6), .int .u64 (t 7)] 25) := ⟨_, rfl⟩
  have B3 : Hid (Below w.heap.size w v3) := by rw [hv3]; exact (B2.out.trans (hb.mono (by omega))).alloc (by omega) _
  have S3 : Hid (v3.heap[w2.heap.size]? = some (.cells #[.int .u64 (s 0), .int .u64 (s 1), .int .u64 (s 2), .int .u64 (s 3), .int .u64 (s 4), .int .u64 (s 5), .int .u64 (s 6), .int .u64 (s 7)] 25) ∧ v3.heap[w3.heap.size]? = some (.cells #[.int .u64 (t 0), .int .u64 (t 1), .int .u64 (t 2), .int .u64 (t 3), .int .u64 (t 4), .int .u64 (t 5), .int .u64 (t 6), .int .u64 (t 7)] 25)) := by
    rw [hv3]
    exact ⟨bOld ((hb.block _ (by omega)).trans S2.out) _, bAt _ _⟩
  have z3 : v3.heap.size = w3.heap.size + 1 := by rw [hv3]; simp
  clear hb
  obtain ⟨sa0, sa1, sa2, sa3, sa4, sa5, sa6, sa7, saz⟩ := blk_facts (S3.out.1)
  obtain ⟨ta0, ta1, ta2, ta3, ta4, ta5, ta6, ta7, taz⟩ := blk_facts (S3.out.2)
  rw [hv3] at sa0 sa1 sa2 sa3 sa4 sa5 sa6 sa7 saz ta0 ta1 ta2 ta3 ta4 ta5 ta6 ta7 taz
  go_wp2_with fail
  refine (HU.out _).mono ?_; rintro e w4 ⟨rfl, hb⟩
  rw [← hv3] at hb
  have hs4 := hb.size
  obtain ⟨v4, hv4⟩ : ∃ v4, v4 = w4.alloc (.cells #[.int .u64 (u 0), .int .u64 (u 1), .int .u64 (u 2), .int .u64 (u 3), .int .u64 (u 4), .int .u64 (u 5), .int .u64 (u 6), .int .u64 (u 7)] 25) := ⟨_, rfl⟩
  have B4 : Hid (Below w.heap.size w v4) := by rw [hv4]; exact (B3.out.trans (hb.mono (by omega))).alloc (by omega) _
  have S4 : Hid (v4.heap[w2.heap.size]? = some (.cells #[.int .u64 (s 0), .int .u64 (s 1), .int .u64 (s 2), .int .u64 (s 3), .int .u64 (s 4), .int .u64 (s 5), .int .u64 (s 6), .int .u64 (s 7)] 25) ∧ v4.heap[w3.heap.size]? = some (.cells #[.int .u64 (t 0), .int .u64 (t 1), .int .u64 (t 2), .int .u64 (t 3), .int .u64 (t 4), .int .u64 (t 5), .int .u64 (t 6), .int .u64 (t 7)] 25) ∧ v4.heap[w4.heap.size]? = some (.cells #[.int .u64 (u 0), .int .u64 (u 1), .int .u64 (u 2), .int .u64 (u 3), .int .u64 (u 4), .int .u64 (u 5), .int .u64 (u 6), .int .u64 (u 7)] 25)) := by
    rw [hv4]
    exact ⟨bOld ((hb.block _ (by omega)).trans S3.out.1) _, bOld ((hb.block _ (by omega)).trans S3.out.2) _, bAt _ _⟩
  have z4 : v4.heap.size = w4.heap.size + 1 := by rw [hv4]; simp
  have up : ∀ {a : Option Addr} {n : Nat} {xs : List Int} {W : World}, IntsAt w a n xs → Below w.heap.size w W → IntsAt W a n xs := fun h hB => IntsAt.below h hB
  have I4 : Hid (IntsAt (w4.alloc (.cells #[.int .u64 (u 0), .int .u64 (u 1), .int .u64 (u 2), .int .u64 (u 3), .int .u64 (u 4), .int .u64 (u 5), .int .u64 (u 6), .int .u64 (u 7)] 25)) a0 l0 zs) := by rw [← hv4]; exact up HZ.out B4.out
  have hB4 : w.heap.size ≤ (w4.alloc (.cells #[.int .u64 (u 0), .int .u64 (u 1), .int .u64 (u 2), .int .u64 (u 3), .int .u64 (u 4), .int .u64 (u 5), .int .u64 (u 6), .int .u64 (u 7)] 25)).heap.size := by rw [← hv4]; exact B4.out.size
  clear hb sa0 sa1 sa2 sa3 sa4 sa5 sa6 sa7 saz ta0 ta1 ta2 ta3 ta4 ta5 ta6 ta7 taz
  go_wp2_with (first | (at_builtin; refine wpL_ints (B := w.heap.size) (v := .slice none 0 0) (n := 0) (xs := []) rfl (.tmp 30) (.tmp 31) rfl rfl ⟨by simp, .inl ⟨rfl, rfl⟩⟩ rfl I4.out (by omega) hB4 ?_; intro p1 q1 ho1 hg1 ha1; rw [← hv4] at hg1 ha1; have hbq1 : Below v4.heap.size v4 q1 := (Below.refl _ _).grown hg1 (Nat.le_refl _) (by simp [Value.ownBlock]); have I5 := up HY.out (B4.out.trans (hbq1.mono B4.out.size)); have hB5 : w.heap.size ≤ q1.heap.size := Nat.le_trans B4.out.size hbq1.size) | (at_builtin; refine wpL_ints (B := w.heap.size) (v := p1) rfl (.tmp 33) (.tmp 34) rfl rfl ho1 rfl I5 (by omega) hB5 ?_; intro p2 q2 ho2 hg2 ha2))
  have hbq : Hid (Below v4.heap.size v4 q2) := hbq1.grown hg2 hbq1.size (fun k hk => by
    rcases ha1 with e | e <;> rw [e] at hk <;> simp [Value.ownBlock] at hk
    omega)
  have ho3 : q2.ownsRow w.heap.size 3 1 p2 (l0 + l1) ((zs ++ ys).map (Value.int .i64)) := by simpa using ho2
  obtain ⟨A, cc, rfl, hI, _⟩ := own_ints ho3
  refine (HO3.out q2 A cc hI).mono ?_; rintro e w5 ⟨rfl, hb⟩
  have hs5 := hbq.out.size
  have hs6 := hb.size
  obtain ⟨v5, hv5⟩ : ∃ v5, v5 = w5.alloc (.cells #[.int .u64 (u 0), .int .u64 (u 1), .int .u64 (u 2), .int .u64 (u 3), .int .u64 (u 4), .int .u64 (u 5), .int .u64 (u 6), .int .u64 (u 7)] 25) := ⟨_, rfl⟩
  have C5 : Hid (Below v4.heap.size v4 v5) := by rw [hv5]; exact (hbq.out.trans (hb.mono (by omega))).alloc (by omega) _
  have B5 : Hid (Below w.heap.size w v5) := B4.out.trans (C5.out.mono B4.out.size)
  have S5 : Hid (v5.heap[w2.heap.size]? = some (.cells #[.int .u64 (s 0), .int .u64 (s 1), .int .u64 (s 2), .int .u64 (s 3), .int .u64 (s 4), .int .u64 (s 5), .int .u64 (s 6), .int .u64 (s 7)] 25) ∧ v5.heap[w3.heap.size]? = some (.cells #[.int .u64 (t 0), .int .u64 (t 1), .int .u64 (t 2), .int .u64 (t 3), .int .u64 (t 4), .int .u64 (t 5), .int .u64 (t 6), .int .u64 (t 7)] 25) ∧ v5.heap[w4.heap.size]? = some (.cells #[.int .u64 (u 0), .int .u64 (u 1), .int .u64 (u 2), .int .u64 (u 3), .int .u64 (u 4), .int .u64 (u 5), .int .u64 (u 6), .int .u64 (u 7)] 25) ∧ v5.heap[w5.heap.size]? = some (.cells #[.int .u64 (u 0), .int .u64 (u 1), .int .u64 (u 2), .int .u64 (u 3), .int .u64 (u 4), .int .u64 (u 5), .int .u64 (u 6), .int .u64 (u 7)] 25)) :=
    ⟨(C5.out.block _ (by omega)).trans S4.out.1, (C5.out.block _ (by omega)).trans S4.out.2.1, (C5.out.block _ (by omega)).trans S4.out.2.2, by rw [hv5]; exact bAt _ _⟩
  have z5 : v5.heap.size = w5.heap.size + 1 := by rw [hv5]; simp
  clear hb hI ho1 ho2 ho3 hg1 hg2 ha1 ha2 hbq1 I5 I4 hB4 hB5
  obtain ⟨ua0, ua1, ua2, ua3, ua4, ua5, ua6, ua7, uaz⟩ := blk_facts (S5.out.2.2.1)
  obtain ⟨va0, va1, va2, va3, va4, va5, va6, va7, vaz⟩ := blk_facts (S5.out.2.2.2)
  rw [hv5] at ua0 ua1 ua2 ua3 ua4 ua5 ua6 ua7 uaz va0 va1 va2 va3 va4 va5 va6 va7 vaz
  go_wp2_with fail
  rw [← hv5]
  clear ua0 ua1 ua2 ua3 ua4 ua5 ua6 ua7 uaz va0 va1 va2 va3 va4 va5 va6 va7 vaz hv5 hv4 hv3 hv2
  go_loopw [13] (fun i wr => ∃ k : Nat, k ≤ l0 ∧ i = .int .i64 k ∧ Hid (Below v5.heap.size v5 wr)) (fun i _ => l0 - (intOf i).toNat)
  case atStart => exact ⟨0, by omega, rfl, Below.refl _ _⟩
  case round =>
    obtain ⟨k, hk, rfl, HB⟩ := hrel
    by_cases hlt : k < l0
    · obtain ⟨b, off, rfl, hbw, hc⟩ := HZ.out.2.resolve_left (by omega)
      have hIn : ∀ W, Below v5.heap.size v5 W → W.cell? ⟨b, off + k, none⟩ = some (.int .i64 (zs.getD k 0)) := fun W hB => ((B5.out.trans (hB.mono B5.out.size)).cell (p := ⟨b, off + k, none⟩) hbw).trans (hc k hlt)
      have h1k := fun W => HH1.out k W hlt
      have h2k := fun W => HH2.out k W hlt
      have hmk := fun j => HMT.out k j hlt
      generalize zs.getD k 0 = za at hIn h1k h2k hmk
      have HIN := Lib.hid hIn
      have HA1 := Lib.hid h1k
      have HA2 := Lib.hid h2k
      have HMK := Lib.hid hmk
      have ia := hIn wr HB.out
      clear hIn hc h1k h2k hmk
      obtain ⟨sa0, sa1, sa2, sa3, sa4, sa5, sa6, sa7, saz⟩ := blk_facts ((HB.out.block _ (by omega)).trans S5.out.1)
      go_wp2_with fail
      go_still_tail 5, (by kernel_rfl)
      change wpList _ _ _ _ _ wr.drew
      go_wp2_with fail
      refine (HA1.out _).mono ?_; rintro e w6 ⟨rfl, hb⟩
      have HB6 : Hid (Below v5.heap.size v5 w6) := HB.out.drew.trans (hb.mono HB.out.size)
      clear hb ia sa0 sa1 sa2 sa3 sa4 sa5 sa6 sa7 saz
      have ia := HIN.out w6 HB6.out
      obtain ⟨ua0, ua1, ua2, ua3, ua4, ua5, ua6, ua7, uaz⟩ := blk_facts ((HB6.out.block _ (by omega)).trans S5.out.2.2.1)
      go_wp2_with fail
      go_still_tail 5, (by kernel_rfl)
      change wpList _ _ _ _ _ w6.drew
      go_wp2_with fail
      refine (HA2.out _).mono ?_; rintro e w7 ⟨rfl, hb⟩
      have HB7 : Hid (Below v5.heap.size v5 w7) := HB6.out.drew.trans (hb.mono HB6.out.size)
      clear hb ia ua0 ua1 ua2 ua3 ua4 ua5 ua6 ua7 uaz HB6 HB
      go_wp2_with fail
      go_loopw [16] (fun i wr => ∃ j : Nat, j ≤ l1 ∧ i = .int .i64 j ∧ Hid (Below v5.heap.size v5 wr)) (fun i _ => l1 - (intOf i).toNat)
      case atStart => exact ⟨0, by omega, rfl, HB7.out⟩
      case round =>
        obtain ⟨j, hj, rfl, HJ⟩ := hrel
        clear HB7
        by_cases hltj : j < l1
        · obtain ⟨b2, off2, rfl, hbw2, hc2⟩ := HY.out.2.resolve_left (by omega)
          have hIn2 : ∀ W, Below v5.heap.size v5 W → W.cell? ⟨b2, off2 + j, none⟩ = some (.int .i64 (ys.getD j 0)) := fun W hB => ((B5.out.trans (hB.mono B5.out.size)).cell (p := ⟨b2, off2 + j, none⟩) hbw2).trans (hc2 j hltj)
          have hmj := HMK.out j hltj
          generalize ys.getD j 0 = yb at hIn2 hmj
          have HIN2 := Lib.hid hIn2
          have HMJ := Lib.hid hmj
          clear hc2 hIn2 hmj
          obtain ⟨sa0, sa1, sa2, sa3, sa4, sa5, sa6, sa7, saz⟩ := blk_facts ((HJ.out.block _ (by omega)).trans S5.out.1)
          obtain ⟨ta0, ta1, ta2, ta3, ta4, ta5, ta6, ta7, taz⟩ := blk_facts ((HJ.out.block _ (by omega)).trans S5.out.2.1)
          go_wp2_with fail
          refine (HM.out _).mono ?_; rintro e w8 ⟨rfl, hb⟩
          have HB8 : Hid (Below v5.heap.size v5 w8) := HJ.out.trans (hb.mono HJ.out.size)
          clear hb sa0 sa1 sa2 sa3 sa4 sa5 sa6 sa7 saz ta0 ta1 ta2 ta3 ta4 ta5 ta6 ta7 taz HJ
          have ia := HIN.out w8 HB8.out
          have ib := HIN2.out w8 HB8.out
          by_cases hq : za = yb
          · obtain rfl := HMJ.out hq
            have e1 : (za == yb) = true := by simp [hq]
            clear hq
            go_wp2_with fail
            go_quiet (fail)
            go_wp2_with fail
            go_roundw
            case rel => exact ⟨j + 1, by omega, by go_num, below_drewN HB8.out nq⟩
            case measure => simp [intOf]; omega
          · have e1 : (za == yb) = false := by rw [beq_eq_false_iff_ne]; exact hq
            clear hq
            go_wp2_with fail
            go_quiet (fail)
            go_wp2_with fail
            go_roundw
            case rel => exact ⟨j + 1, by omega, by go_num, below_drewN HB8.out nq⟩
            case measure => simp [intOf]; omega
        · obtain rfl : j = l1 := by omega
          go_wp2_with fail
          go_roundw
          case rel => exact ⟨k + 1, by omega, by go_num, HJ.out⟩
          case measure => simp [intOf]; omega
    · obtain rfl : k = l0 := by omega
      obtain ⟨sa0, sa1, sa2, sa3, sa4, sa5, sa6, sa7, saz⟩ := blk_facts ((HB.out.block _ (by omega)).trans S5.out.1)
      go_wp2_with fail
      refine (HX.out _).mono ?_; rintro e w6 ⟨rfl, hb⟩
      have hs6 := HB.out.size
      have hs7 := hb.size
      obtain ⟨v6, hv6⟩ : ∃ v6, v6 = w6.alloc (.cells #[.int .u64 (x 0), .int .u64 (x 1), .int .u64 (x 2), .int .u64 (x 3), .int .u64 (x 4), .int .u64 (x 5), .int .u64 (x 6), .int .u64 (x 7)] 25) := ⟨_, rfl⟩
      have HB6 : Hid (Below v5.heap.size v5 v6) := by rw [hv6]; exact (HB.out.trans (hb.mono hs6)).alloc (by omega) _
      have S6 : Hid (v6.heap[w6.heap.size]? = some (.cells #[.int .u64 (x 0), .int .u64 (x 1), .int .u64 (x 2), .int .u64 (x 3), .int .u64 (x 4), .int .u64 (x 5), .int .u64 (x 6), .int .u64 (x 7)] 25)) := by rw [hv6]; exact bAt _ _
      have z6 : v6.heap.size = w6.heap.size + 1 := by rw [hv6]; simp
      clear hb sa0 sa1 sa2 sa3 sa4 sa5 sa6 sa7 saz
      obtain ⟨ta0, ta1, ta2, ta3, ta4, ta5, ta6, ta7, taz⟩ := blk_facts ((HB6.out.block _ (by omega)).trans S5.out.2.1)
      rw [hv6] at ta0 ta1 ta2 ta3 ta4 ta5 ta6 ta7 taz
      go_wp2_with fail
      refine (HYY.out _).mono ?_; rintro e w7 ⟨rfl, hb⟩
      rw [← hv6] at hb
      have hs8 := hb.size
      obtain ⟨v7, hv7⟩ : ∃ v7, v7 = w7.alloc (.cells #[.int .u64 (y 0), .int .u64 (y 1), .int .u64 (y 2), .int .u64 (y 3), .int .u64 (y 4), .int .u64 (y 5), .int .u64 (y 6), .int .u64 (y 7)] 25) := ⟨_, rfl⟩
      have HB7 : Hid (Below v5.heap.size v5 v7) := by rw [hv7]; exact (HB6.out.trans (hb.mono (by omega))).alloc (by omega) _
      have S7 : Hid (v7.heap[w6.heap.size]? = some (.cells #[.int .u64 (x 0), .int .u64 (x 1), .int .u64 (x 2), .int .u64 (x 3), .int .u64 (x 4), .int .u64 (x 5), .int .u64 (x 6), .int .u64 (x 7)] 25) ∧ v7.heap[w7.heap.size]? = some (.cells #[.int .u64 (y 0), .int .u64 (y 1), .int .u64 (y 2), .int .u64 (y 3), .int .u64 (y 4), .int .u64 (y 5), .int .u64 (y 6), .int .u64 (y 7)] 25)) := by
        rw [hv7]
        exact ⟨bOld ((hb.block _ (by omega)).trans S6.out) _, bAt _ _⟩
      have z7 : v7.heap.size = w7.heap.size + 1 := by rw [hv7]; simp
      clear hb ta0 ta1 ta2 ta3 ta4 ta5 ta6 ta7 taz
      obtain ⟨xa0, xa1, xa2, xa3, xa4, xa5, xa6, xa7, xaz⟩ := blk_facts (S7.out.1)
      obtain ⟨ya0, ya1, ya2, ya3, ya4, ya5, ya6, ya7, yaz⟩ := blk_facts (S7.out.2)
      rw [hv7] at xa0 xa1 xa2 xa3 xa4 xa5 xa6 xa7 xaz ya0 ya1 ya2 ya3 ya4 ya5 ya6 ya7 yaz
      go_wp2_with fail
      refine (HXY.out _).mono ?_; rintro e w8 ⟨rfl, hb⟩
      rw [← hv7] at hb
      have hs9 := hb.size
      have HB8 : Hid (Below v5.heap.size v5 w8) := HB7.out.trans (hb.mono (by omega))
      have S8 : Hid (w8.heap[w6.heap.size]? = some (.cells #[.int .u64 (x 0), .int .u64 (x 1), .int .u64 (x 2), .int .u64 (x 3), .int .u64 (x 4), .int .u64 (x 5), .int .u64 (x 6), .int .u64 (x 7)] 25)) := (hb.block _ (by omega)).trans S7.out.1
      clear hb xa0 xa1 xa2 xa3 xa4 xa5 xa6 xa7 xaz ya0 ya1 ya2 ya3 ya4 ya5 ya6 ya7 yaz
      obtain ⟨xa0, xa1, xa2, xa3, xa4, xa5, xa6, xa7, xaz⟩ := blk_facts (S8.out)
      go_wp2_with fail
      refine (HXC.out _).mono ?_; rintro e w9 ⟨rfl, hb⟩
      have HB9 : Hid (Below v5.heap.size v5 w9) := HB8.out.trans (hb.mono HB8.out.size)
      clear hb xa0 xa1 xa2 xa3 xa4 xa5 xa6 xa7 xaz
      go_wp2_with fail
      go_ret
      exact ⟨rfl, B5.out.trans (HB9.out.mono B5.out.size)⟩
set_option maxRecDepth 100000 in
theorem sigCovers_law {w : World} (a0 : Option Addr) (l0 c0 : Nat) (zs : List Int) (hz : IntsAt w a0 l0 zs) (hc0 : l0 ≤ c0) (hm0 : c0 ≤ maxLen) (a1 : Option Addr) (l1 c1 : Nat) (ys : List Int) (hy : IntsAt w a1 l1 ys) (hc1 : l1 ≤ c1) (hm1 : c1 ≤ maxLen) (cell : Int) (hcw : (Lit.int .i64 cell).wf = true) (hb0 : l0 ≤ 1048576) (hb1 : l1 ≤ 1048576) (hT : Tab w) :
    Calls Tryd.prog 7 #[.slice a0 l0 c0, .slice a1 l1 c1, .int .i64 cell] w fun e w' => e = .returned (.bool true) ∧ Below w.heap.size w w' := by
  have hs := ofS_wds zs
  have ht := ofS_wds ys
  have hu := orS_wds hs ht
  have hmem : ∀ {xs : List Int} {n k : Nat}, xs.length = n → k < n → xs.getD k 0 ∈ xs := fun {xs n k} h hk => by
    rw [List.getD_eq_getElem?_getD, List.getElem?_eq_getElem (by omega)]
    exact List.getElem_mem _
  refine covers_core a0 l0 c0 zs a1 l1 c1 ys cell (ofS zs) (ofS ys) (orS (ofS zs) (ofS ys)) (withS (ofS zs) cell) (withS (ofS ys) cell) (!sigEq (andS (ofS zs) (ofS ys)) noS) hT hz hy hb0 hb1 ?_ ?_ ?_ ?_ ?_ ?_ ?_ ?_ ?_ ?_ ?_ ?_
  · exact fun W hB => of_any a0 l0 c0 zs W (hz.below hB) (by omega)
  · exact fun W hB => of_any a1 l1 c1 ys W (hy.below hB) (by omega)
  · exact fun W => union_any _ _ W
  · intro W A c hI
    refine (of_any A (l0 + l1) c (zs ++ ys) W hI (by omega)).mono ?_
    rintro e w' ⟨rfl, hb⟩
    have h := ofS_app zs ys
    exact ⟨ret_sig (h 0 (by decide)) (h 1 (by decide)) (h 2 (by decide)) (h 3 (by decide)) (h 4 (by decide)) (h 5 (by decide)) (h 6 (by decide)) (h 7 (by decide)), hb⟩
  · intro k W hk
    have h := has_any (ofS zs) hs (zs.getD k 0) W
    rw [hasS_of (hmem hz.1 hk)] at h
    exact h
  · intro k W hk
    have h := has_any _ hu (zs.getD k 0) W
    rw [hasS_or hs ht (hasS_of (hmem hz.1 hk))] at h
    exact h
  · exact fun W => meets_any _ _ W
  · intro k j hk hj hq
    exact meets_of hs ht (hasS_of (hmem hz.1 hk)) (by rw [hq]; exact hasS_of (hmem hy.1 hj))
  · exact fun W => with_any _ hs cell W
  · exact fun W => with_any _ ht cell W
  · intro W
    have h := meets_any (withS (ofS zs) cell) (withS (ofS ys) cell) W
    rw [meets_of (withS_wds hs cell) (withS_wds ht cell) (hasS_with cell) (hasS_with cell)] at h
    exact h
  · intro W
    have h := has_any (withS (ofS zs) cell) (withS_wds hs cell) cell W
    rw [hasS_with cell] at h
    exact h
end Go.Proofs.YtcnkoiogfhggeaaDoor
