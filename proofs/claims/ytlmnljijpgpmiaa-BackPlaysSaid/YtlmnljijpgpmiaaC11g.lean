/- Layer 11: New of what may not be; Sig, Left; steps of a machine alone. -/
import Derived.Test.YtlmnljijpgpmiaaC11f
import Derived.Test.YtlmnljijpgpmiaaS11c
namespace Go.Proofs.Ytlmnljijpgpmiaa
open Go.RowKit
set_option linter.unusedVariables false
set_option maxHeartbeats 2000000 in
set_option maxRecDepth 100000 in
theorem bakNew_bad (c0 n c2 c3 : Int) (mu : Bool) (c5 : Int) (c6 : Value) (st : Int) (a : Option Addr) (N c : Nat) (h : ¬ ((1 ≤ n ∧ n ≤ 16) ∧ (1 ≤ st ∧ st ≤ 1099511627776) ∧ N ≤ 24)) (w : World) :
    Calls Try.prog 8 #[.agg #[.int .i64 c0, .int .i64 n, .int .i64 c2, .int .i64 c3, .bool mu, .int .i64 c5, c6], .int .i64 st, .slice a N c] w fun e w' => e = .returned (.tuple #[.pointer none, .int .i64 1]) ∧ Below w.heap.size w w' := by
  have HB : Hid (∀ o, Below w.heap.size w (w.alloc o)) := fun o => (Below.refl _ _).alloc (Nat.le_refl _) _
  by_cases h1 : 1 ≤ n
  · by_cases h2 : n ≤ 16
    · by_cases h3 : 1 ≤ st
      · by_cases h4 : st ≤ 1099511627776
        · have h5 : ¬ (N : Int) ≤ 24 := fun h5 => h ⟨⟨h1, h2⟩, ⟨h3, h4⟩, by omega⟩
          clear h
          go_enter Try.func8, Try.ntmps8
          go_wp2_with fail
          go_ret2
          exact ⟨rfl, HB.out _⟩
        · clear h
          go_enter Try.func8, Try.ntmps8
          go_wp2_with fail
          go_ret2
          exact ⟨rfl, HB.out _⟩
      · clear h
        go_enter Try.func8, Try.ntmps8
        go_wp2_with fail
        go_ret2
        exact ⟨rfl, HB.out _⟩
    · clear h
      go_enter Try.func8, Try.ntmps8
      go_wp2_with fail
      go_ret2
      exact ⟨rfl, HB.out _⟩
  · clear h
    go_enter Try.func8, Try.ntmps8
    go_wp2_with fail
    go_ret2
    exact ⟨rfl, HB.out _⟩
theorem bakLeft_any (x : Nat) (d : BD) (b : BK) : Looks Try.prog 12 #[.pointer (some ⟨x, 0, none⟩)] (BakH x d b) (.returned (.int .i64 b.left)) := by
  rintro w F ⟨hb, hF⟩
  have c13 := (bak_cells hb).c13
  have fz := (bak_cells hb).fz
  clear hb hF
  go_enter Try.func12, Try.ntmps12
  go_wp2_with fail
  go_ret
  exact ⟨rfl, Below.refl _ _⟩
theorem bakSig_any (x : Nat) (d : BD) (b : BK) : Looks Try.prog 15 #[.pointer (some ⟨x, 0, none⟩)] (BakH x d b) (.returned (.agg #[.int .u64 (d.s 0), .int .u64 (d.s 1), .int .u64 (d.s 2), .int .u64 (d.s 3), .int .u64 (d.s 4), .int .u64 (d.s 5), .int .u64 (d.s 6), .int .u64 (d.s 7)])) := by
  rintro w F ⟨hb, hF⟩
  have hR := bak_cells hb
  have fz := hR.fz
  have r0 : w.cell? ⟨x, 4, none⟩ = some (.int .u64 (d.s 0)) := hR.rd 0 (by decide)
  have r1 : w.cell? ⟨x, 5, none⟩ = some (.int .u64 (d.s 1)) := hR.rd 1 (by decide)
  have r2 : w.cell? ⟨x, 6, none⟩ = some (.int .u64 (d.s 2)) := hR.rd 2 (by decide)
  have r3 : w.cell? ⟨x, 7, none⟩ = some (.int .u64 (d.s 3)) := hR.rd 3 (by decide)
  have r4 : w.cell? ⟨x, 8, none⟩ = some (.int .u64 (d.s 4)) := hR.rd 4 (by decide)
  have r5 : w.cell? ⟨x, 9, none⟩ = some (.int .u64 (d.s 5)) := hR.rd 5 (by decide)
  have r6 : w.cell? ⟨x, 10, none⟩ = some (.int .u64 (d.s 6)) := hR.rd 6 (by decide)
  have r7 : w.cell? ⟨x, 11, none⟩ = some (.int .u64 (d.s 7)) := hR.rd 7 (by decide)
  generalize d.s = s at *
  have hxl := heap_lt hb
  have hne : x ≠ w.heap.size := by omega
  have hne2 : w.heap.size ≠ x := by omega
  have HB : Hid (∀ o, Below w.heap.size w (w.alloc o)) := fun o => (Below.refl _ _).alloc (Nat.le_refl _) _
  clear hb hF hR
  go_enter Try.func15, Try.ntmps15
  go_wp2_with fail
  refine bodyPost_ret (v := _) (by simp [results, Try.results15, go_sem]; rfl) rfl ?_
  refine ⟨rfl, ?_⟩
  repeat (refine Below.setCell ?_ (Nat.le_refl _) _)
  exact HB.out _
theorem mostZ_ge (W : List (Int × Int)) (m : Int) : m ≤ W.foldl (fun m x => max m x.1) m := by
  induction W generalizing m with
  | nil => exact Int.le_refl _
  | cons y W ih => exact Int.le_trans (Int.le_max_left _ _) (ih (max m y.1))
theorem mostZ_lt {cells : Int} {W : List (Int × Int)} (hW : ∀ y ∈ W, y.1 < cells) (m : Int) (hm : m < cells) : W.foldl (fun m x => max m x.1) m < cells := by
  induction W generalizing m with
  | nil => exact hm
  | cons y W ih =>
    refine ih (fun z hz => hW z (List.mem_cons_of_mem _ hz)) (max m y.1) ?_
    have := hW y (List.mem_cons_self ..)
    omega
theorem mostZ_mem {W : List (Int × Int)} {y : Int × Int} (hy : y ∈ W) (m : Int) : y.1 ≤ W.foldl (fun m x => max m x.1) m := by
  induction W generalizing m with
  | nil => cases hy
  | cons z W ih =>
    cases hy with
    | head => exact Int.le_trans (Int.le_max_right _ _) (mostZ_ge W _)
    | tail _ h => exact ih h _
theorem mkD_ok {n : Nat} {st : Int} (mu : Bool) (lv : Value) {W : List (Int × Int)} (h1 : 1 ≤ n) (h2 : n ≤ 16) (h3 : 1 ≤ st) (h4 : st ≤ 1099511627776) (h5 : W.length ≤ 24) : BDOk (mkD n st mu lv W) := ⟨⟨h1, h2⟩, ⟨h3, h4⟩, h5, ofS_wds _⟩
/-- A step of a machine alone. -/
theorem alone_step {w wr : World} {p x cells : Nat} {d : BD} {l : List Acc} {b : BK} (hd : BDOk d) (h : AtW w (KB p x cells d l b) wr) (hi : EInv d.n d.st d.s d.W b l) (hlen : l.length ≤ 3000000000000) (h0 : b.nx ≠ 0) (hm : d.W.length = 0 ∨ d.most < cells) (hc : ∀ y ∈ d.W, 0 ≤ y.1 ∧ y.1 < (cells : Int)) (th : Int) :
    ∃ v, wordOf l (addrK11 d.n d.st d.W b).1 (addrK11 d.n d.st d.W b).2.1 (addrK11 d.n d.st d.W b).2.2 = v ∧
    Calls Try.prog 11 #[.pointer (some ⟨x, 0, none⟩), .pointer (some ⟨p, 0, none⟩), .int .i64 th] wr fun e w' => e = .returned (ansV (stepB11 d.n d.st d.s b v).2 0 0 true) ∧ AtW w (KB p x cells d (l ++ [accK d.n d.st d.s d.W b th v]) (stepB11 d.n d.st d.s b v).1) w' :=
  ⟨_, rfl, (bakStep_any p x cells d hd l hlen b hi.ok h0 hm hc th _ (hi.okw _ _ _) rfl).at h⟩
theorem alone_none {w wr : World} {p x cells : Nat} {d : BD} {l : List Acc} {b : BK} (h : AtW w (KB p x cells d l b) wr) (h0 : b.nx = 0) (th : Int) :
    Calls Try.prog 11 #[.pointer (some ⟨x, 0, none⟩), .pointer (some ⟨p, 0, none⟩), .int .i64 th] wr fun e w' => e = .returned (ansV 0 0 0 false) ∧ AtW w (KB p x cells d l b) w' :=
  Looks.at (KB.good _ _ _ _ _ _) (bakStep_nil p x d.n cells d l b th h0) h
theorem alone_left {w wr : World} {p x cells : Nat} {d : BD} {l : List Acc} {b : BK} (h : AtW w (KB p x cells d l b) wr) :
    Calls Try.prog 12 #[.pointer (some ⟨x, 0, none⟩)] wr fun e w' => e = .returned (.int .i64 b.left) ∧ AtW w (KB p x cells d l b) w' :=
  Looks.at (KB.good _ _ _ _ _ _) (Looks.right (Looks.right (bakLeft_any x d b))) h
end Go.Proofs.Ytlmnljijpgpmiaa
