/- Layer 11: the program's machine as an object; its small functions. -/
import Derived.Test.YtlmnljijpgpmiaaG0
import Derived.Test.YtlmnljijpgpmiaaS11
import Derived.Test.YtlmnljijpgpmiaaM3
import Derived.Test.YtlmnljijpgpmiaaC3c
import Derived.Test.YtlmnljijpgpmiaaC3h
import Derived.Test.YtlmnljijpgpmiaaC4
import Derived.Deep.QuietTactic
import Derived.BigQuiet
namespace Go.Proofs.Ytlmnljijpgpmiaa
open Go.RowKit
set_option linter.unusedVariables false
/-- What the machine was made of. -/
structure BD where
  n : Nat
  st : Int
  most : Int
  mu : Bool
  lv : Value
  s : Nat → Int
  W : List (Int × Int)
def nxF (k : Nat) : FuncId := if k = 1 then 26 else if k = 2 then 58 else if k = 3 then 72 else if k = 4 then 73 else if k = 5 then 55 else if k = 6 then 56 else 57
def nxV (x k : Nat) : Value := if k = 0 then .nilFunc else .func (.func (nxF k)) #[.pointer (some ⟨x, 0, none⟩)] #[]
def bakC (x : Nat) (d : BD) (b : BK) : Array Value := #[.int .i64 d.n, .bool d.mu, .int .i64 d.st, d.lv, .int .u64 (d.s 0), .int .u64 (d.s 1), .int .u64 (d.s 2), .int .u64 (d.s 3), .int .u64 (d.s 4), .int .u64 (d.s 5), .int .u64 (d.s 6), .int .u64 (d.s 7), .int .i64 d.most, .int .i64 b.left, .int .i64 b.laid, .int .i64 b.sp, .int .i64 b.word, .bool b.known, nxV x b.nx]
abbrev BakH (x : Nat) (d : BD) (b : BK) : HP := BlkH x (bakC x d b) 82
theorem BakH.good (x : Nat) (d : BD) (b : BK) : Good (BakH x d b) := BlkH.good _ _ _
/-- What the walk reads of the machine. -/
structure BakR (w : World) (x : Nat) (d : BD) (b : BK) : Prop where
  c0 : w.cell? ⟨x, 0, none⟩ = some (.int .i64 d.n)
  c2 : w.cell? ⟨x, 2, none⟩ = some (.int .i64 d.st)
  c3 : w.cell? ⟨x, 3, none⟩ = some d.lv
  rd : ∀ k, k < 8 → w.cell? ⟨x, 4 + k, none⟩ = some (.int .u64 (d.s k))
  c12 : w.cell? ⟨x, 12, none⟩ = some (.int .i64 d.most)
  c13 : w.cell? ⟨x, 13, none⟩ = some (.int .i64 b.left)
  c14 : w.cell? ⟨x, 14, none⟩ = some (.int .i64 b.laid)
  c15 : w.cell? ⟨x, 15, none⟩ = some (.int .i64 b.sp)
  c16 : w.cell? ⟨x, 16, none⟩ = some (.int .i64 b.word)
  c17 : w.cell? ⟨x, 17, none⟩ = some (.bool b.known)
  c18 : w.cell? ⟨x, 18, none⟩ = some (nxV x b.nx)
  fz : ∀ o, w.frozen? ⟨x, o, none⟩ = false
theorem bak_cells {w : World} {x : Nat} {d : BD} {b : BK} {T : TypeId} (h : w.heap[x]? = some (.cells (bakC x d b) T)) : BakR w x d b where
  c0 := by simp [World.cell?, h, bakC]
  c2 := by simp [World.cell?, h, bakC]
  c3 := by simp [World.cell?, h, bakC]
  rd := by
    intro k hk
    match k, hk with
    | 0, _ => simp [World.cell?, h, bakC]
    | 1, _ => simp [World.cell?, h, bakC]
    | 2, _ => simp [World.cell?, h, bakC]
    | 3, _ => simp [World.cell?, h, bakC]
    | 4, _ => simp [World.cell?, h, bakC]
    | 5, _ => simp [World.cell?, h, bakC]
    | 6, _ => simp [World.cell?, h, bakC]
    | 7, _ => simp [World.cell?, h, bakC]
  c12 := by simp [World.cell?, h, bakC]
  c13 := by simp [World.cell?, h, bakC]
  c14 := by simp [World.cell?, h, bakC]
  c15 := by simp [World.cell?, h, bakC]
  c16 := by simp [World.cell?, h, bakC]
  c17 := by simp [World.cell?, h, bakC]
  c18 := by simp [World.cell?, h, bakC]
  fz := fun o => by simp [World.frozen?, h]
theorem run_mkFunc (fn : Fn) (first cap : Array Value) (w : World) : (Instr.makeFunc fn first cap).run Try.prog w = .ok (.func fn first cap) w := rfl
theorem run_stFunc (fn : Fn) (first cap : Array Value) (a : Addr) (w : World) : (store a (.func fn first cap)).run Try.prog w = stored Try.prog w a (.func fn first cap) .plain := run_store Try.prog w a _ _ rfl
/-- The machine's numbers, all but the next, are put. -/
theorem bak_put {w : World} (x : Nat) (d : BD) (b : BK) (k : Nat) : Moves (BakH x d b) (BakH x d { b with nx := k }) w (w.setCell ⟨x, 18, none⟩ (nxV x k)) := BlkH.set (cs := bakC x d b) 18 _
end Go.Proofs.Ytlmnljijpgpmiaa
namespace Go.Proofs.Ytlmnljijpgpmiaa
open Go.RowKit
set_option linter.unusedVariables false
theorem bakReady_any (x : Nat) (d : BD) (b : BK) : Lifts Try.prog 44 #[.pointer (some ⟨x, 0, none⟩)] (BakH x d b) (BakH x d (rdyK b)) (.returned (.int .i64 2)) := by
  rintro w F hO
  have HO := Lib.hid hO
  have hR := bak_cells hO.1
  have c13 := hR.c13
  have c17 := hR.c17
  have c18 := hR.c18
  have fz := hR.fz
  have hmf := run_mkFunc
  have hst := run_stFunc
  have HP := Lib.hid (fun k => (Stp.refl HO.out).move (bak_put x d b k))
  clear hO hR
  unfold rdyK
  by_cases hl : 0 < b.left
  · have d1 : decide ((0 : Int) < (b.left : Int)) = true := by simpa using hl
    rw [if_pos hl]
    generalize b.left = bl at *
    go_enter Try.func44, Try.ntmps44
    go_wp2_with fail
    go_ret
    exact ⟨rfl, HP.out 5⟩
  · have d1 : decide ((0 : Int) < (b.left : Int)) = false := by simp; omega
    rw [if_neg hl]
    by_cases hk : b.known = true
    · rw [if_pos hk]
      rw [hk] at c17
      go_enter Try.func44, Try.ntmps44
      go_wp2_with fail
      go_ret
      exact ⟨rfl, HP.out 7⟩
    · rw [if_neg hk]
      have hk' : b.known = false := by simpa using hk
      rw [hk'] at c17
      go_enter Try.func44, Try.ntmps44
      go_wp2_with fail
      go_ret
      exact ⟨rfl, HP.out 6⟩
theorem bakOlder_any (x : Nat) (d : BD) (b : BK) (sp : Int) (hn : d.n ≤ 16) (hs : 1 ≤ d.st ∧ d.st ≤ 1099511627776) : Lifts Try.prog 45 #[.pointer (some ⟨x, 0, none⟩), .int .i64 sp] (BakH x d b) (BakH x d (oldK d.n d.st b sp)) (.returned (.int .i64 2)) := by
  rintro w F hO
  have HO := Lib.hid hO
  have hR := bak_cells hO.1
  have c0 := hR.c0
  have c2 := hR.c2
  have c15 := hR.c15
  have c18 := hR.c18
  have fz := hR.fz
  have hmf := run_mkFunc
  have hst := run_stFunc
  have HP : Hid (∀ k, Stp w ((w.setCell ⟨x, 15, none⟩ (.int .i64 sp)).drewN k) F (BakH x d { b with sp := sp })) := fun k => ((Stp.refl HO.out).move (BlkH.set (cs := bakC x d b) (w := w) 15 (.int .i64 sp))).below (BakH.good _ _ _) (below_drewN (Below.refl _ _) _)
  have HRD := Lib.hid (fun w1 (h : Stp w w1 F (BakH x d { b with sp := sp })) => Stp.lift (bakReady_any x d { b with sp := sp }) h)
  have HQ := Lib.hid (fun w1 (h : Stp w w1 F (BakH x d { b with sp := sp })) k => h.move (bak_put x d { b with sp := sp } k))
  clear hO hR
  unfold oldK
  by_cases h1 : sp < 1
  · rw [if_pos (.inl h1)]
    have d1 : decide (sp < 1) = true := by simpa using h1
    go_enter Try.func45, Try.ntmps45
    go_wp2_with fail
    go_quiet (fail)
    go_wp2_with fail
    refine (HRD.out _ (HP.out _)).mono ?_; rintro e w2 ⟨rfl, h⟩
    go_wp2_with fail
    go_ret
    exact ⟨rfl, h⟩
  · have d1 : decide (sp < 1) = false := by simpa using h1
    by_cases h2 : sp ≤ d.st - d.n
    · rw [if_pos (.inr h2)]
      have d2 : decide (sp ≤ d.st - d.n) = true := by simpa using h2
      go_enter Try.func45, Try.ntmps45
      go_wp2_with fail
      go_quiet (fail)
      go_wp2_with fail
      refine (HRD.out _ (HP.out _)).mono ?_; rintro e w2 ⟨rfl, h⟩
      go_wp2_with fail
      go_ret
      exact ⟨rfl, h⟩
    · rw [if_neg (by omega)]
      have d2 : decide (sp ≤ d.st - d.n) = false := by simpa using h2
      go_enter Try.func45, Try.ntmps45
      go_wp2_with fail
      go_quiet (fail)
      go_wp2_with fail
      go_ret
      exact ⟨rfl, HQ.out _ (HP.out _) 2⟩
end Go.Proofs.Ytlmnljijpgpmiaa
namespace Go.Proofs.Ytlmnljijpgpmiaa
open Go.RowKit
set_option linter.unusedVariables false
theorem bakOver_any (x : Nat) (d : BD) (b : BK) (hs : 1 ≤ d.st ∧ d.st ≤ 1099511627776) : Lifts Try.prog 65 #[.pointer (some ⟨x, 0, none⟩)] (BakH x d b) (BakH x d (ovrK d.st b)) (.returned (.int .i64 2)) := by
  rintro w F hO
  have HO := Lib.hid hO
  have hR := bak_cells hO.1
  have c2 := hR.c2
  have c15 := hR.c15
  have c17 := hR.c17
  have fz := hR.fz
  have HP : Hid (∀ w1, Below w.heap.size w w1 → Stp w (w1.setCell ⟨x, 17, none⟩ (.bool (b.sp == d.st - 1))) F (BakH x d { b with known := b.sp == d.st - 1 })) := fun w1 hb => ((Stp.refl HO.out).below (BakH.good _ _ _) hb).move (BlkH.set (cs := bakC x d b) 17 (.bool (b.sp == d.st - 1)))
  have HRD := Lib.hid (fun w1 (h : Stp w w1 F (BakH x d { b with known := b.sp == d.st - 1 })) => Stp.lift (bakReady_any x d { b with known := b.sp == d.st - 1 }) h)
  have HB : Hid (∀ k, Below w.heap.size w (w.drewN k)) := fun k => below_drewN (Below.refl _ _) _
  clear hO hR
  unfold ovrK
  go_enter Try.func65, Try.ntmps65
  go_wp2_with fail
  go_region
  go_wp2_with fail
  refine (HRD.out _ ((HP.out w (Below.refl _ _)).drew (BakH.good _ _ _))).mono ?_; rintro e w2 ⟨rfl, h⟩
  go_wp2_with fail
  go_ret
  exact ⟨rfl, h⟩
def wordN (x : Nat) (w : World) : Nat := match w.cell? ⟨x, 16, none⟩ with
  | some (.int _ k) => 8 - k.toNat
  | _ => 0
theorem wordN_at {x : Nat} {w : World} {k : Nat} (h : w.cell? ⟨x, 16, none⟩ = some (.int .i64 k)) : wordN x w = 8 - k := by
  unfold wordN; rw [h]; simp
theorem bakWording_any (x : Nat) (d : BD) (b : BK) (k0 : Nat) (hk0 : k0 ≤ 8) (hw : b.word + 1 = k0) (hn : d.n ≤ 16) (hs : 1 ≤ d.st ∧ d.st ≤ 1099511627776) (hsp : 1 ≤ b.sp ∧ b.sp < d.st) : Lifts Try.prog 67 #[.pointer (some ⟨x, 0, none⟩)] (BakH x d b) (BakH x d (wdgK d.n d.st d.s b k0)) (.returned (.int .i64 2)) := by
  rintro w F hO
  have hR := bak_cells hO.1
  have c16 := hR.c16
  have c18 := hR.c18
  have fz := hR.fz
  have hmf := run_mkFunc
  have hst := run_stFunc
  have HW : Hid (IntKind.i64.wrap (b.word + 1) = k0) := by
    show _ = _
    rw [IntKind.wrap_i64]; omega
  have hxl := heap_lt hO.1
  have HO := Lib.hid hO
  have HP : Hid (∀ (w1 : World) (k : Nat) v, v = (k : Int) → Stp w w1 F (BakH x d b) → Stp w (w1.setCell ⟨x, 16, none⟩ (.int .i64 v)) F (BakH x d { b with word := k })) := fun w1 k v hv h => by
    subst hv
    exact h.move (BlkH.set (cs := bakC x d b) 16 (.int .i64 k))
  have HP2 : Hid (∀ (w1 : World) (k j : Nat), Stp w w1 F (BakH x d { b with word := j }) → Stp w (w1.setCell ⟨x, 16, none⟩ (.int .i64 k)) F (BakH x d { b with word := k })) := fun w1 k j h => h.move (BlkH.set (cs := bakC x d { b with word := j }) 16 (.int .i64 k))
  have HQ : Hid (∀ (w1 : World) (k : Nat), Stp w w1 F (BakH x d { b with word := k }) → Stp w (w1.setCell ⟨x, 18, none⟩ (nxV x 3)) F (BakH x d { b with word := k, nx := 3 })) := fun w1 k h => h.move (bak_put x d { b with word := k } 3)
  have HOL := Lib.hid (fun w1 (h : Stp w w1 F (BakH x d { b with word := 8 })) => Stp.lift (bakOlder_any x d { b with word := 8 } (b.sp - 1) hn hs) h)
  have HR0 : Hid (∀ (w1 : World) (k : Nat), Stp w w1 F (BakH x d { b with word := k }) → BakR w1 x d { b with word := k }) := fun w1 k h => bak_cells h.has.blk
  clear hO hR
  go_enter Try.func67, Try.ntmps67
  go_wp2_with fail
  go_loopw [10] (fun _ wr => ∃ k : Nat, k ≤ 8 ∧ Hid (nextW d.s k0 = nextW d.s k) ∧ Hid (Stp w wr F (BakH x d { b with word := k }))) (fun _ wr => wordN x wr)
  case atStart => exact ⟨k0, hk0, rfl, HP.out _ k0 _ (by first | exact HW.out | omega) (Stp.refl HO.out)⟩
  case round =>
    obtain ⟨k, hk, HK, HS⟩ := hrel
    obtain ⟨c0, c2, c3, rd, c12, c13, c14, c15, c16, c17, c18, fz⟩ := HR0.out _ _ HS.out
    have HN0 := Lib.hid (wordN_at c16)
    by_cases hlt : k < 8
    · have ck := rd k hlt
      have hk8 : (k : Int) < 8 := by omega
      clear rd
      by_cases hz : d.s k = 0
      · have HN : Hid (nextW d.s k0 = nextW d.s (k + 1)) := HK.out.trans (nextW_zero hlt hz)
        rw [hz] at ck
        clear hz
        go_wp2_with fail
        go_quiet (fail)
        have HS2 : Hid (Stp w (wr.drewN nq) F (BakH x d { b with word := k })) := HS.out.below (BakH.good _ _ _) (below_drewN (Below.refl _ _) _)
        clear c0 c2 c3 c12 c13 c14 c15 c16 c17 c18 fz HS ck
        obtain ⟨c0, c2, c3, rd, c12, c13, c14, c15, c16, c17, c18, fz⟩ := HR0.out _ _ HS2.out
        clear rd
        generalize wr.drewN nq = w1 at *
        have HW1 : Hid (IntKind.i64.wrap ((k : Int) + 1) = ((k + 1 : Nat) : Int)) := by
          show _ = _
          rw [IntKind.wrap_i64]; omega
        have hcast : Hid (((k : Int) + 1) = ((k + 1 : Nat) : Int)) := by show _ = _; omega
        go_wp2_with fail
        go_roundw
        case rel =>
          refine ⟨k + 1, by omega, HN.out, ?_⟩
          first | exact HP2.out _ (k + 1) k HS2.out | (rw [hcast.out]; exact HP2.out _ (k + 1) k HS2.out) | (rw [HW1.out]; exact HP2.out _ (k + 1) k HS2.out)
        case measure =>
          rw [HN0.out]
          have h3 := HR0.out _ _ (HP2.out _ (k + 1) k HS2.out)
          first | rw [wordN_at h3.c16] | (rw [hcast.out, wordN_at h3.c16]) | (rw [HW1.out, wordN_at h3.c16])
          omega
      · have HN : Hid (wdgK d.n d.st d.s b k0 = { b with word := k, nx := 3 }) := by
          show _ = _
          unfold wdgK
          rw [HK.out, nextW_here hlt hz, if_pos hlt]
        have e1 : (d.s k != 0) = true := by simp [hz]
        generalize d.s k = z at ck e1
        clear hz
        go_wp2_with fail
        go_quiet (fail)
        have HS2 : Hid (Stp w (wr.drewN nq) F (BakH x d { b with word := k })) := HS.out.below (BakH.good _ _ _) (below_drewN (Below.refl _ _) _)
        clear c0 c2 c3 c12 c13 c14 c15 c16 c17 c18 fz HS ck
        obtain ⟨c0, c2, c3, rd, c12, c13, c14, c15, c16, c17, c18, fz⟩ := HR0.out _ _ HS2.out
        clear rd
        generalize wr.drewN nq = w1 at *
        go_wp2_with fail
        go_ret
        rw [HN.out]
        exact ⟨rfl, HQ.out _ _ HS2.out⟩
    · obtain rfl : k = 8 := by omega
      have HN : Hid (wdgK d.n d.st d.s b k0 = oldK d.n d.st { b with word := 8 } (b.sp - 1)) := by
        show _ = _
        unfold wdgK
        rw [HK.out, nextW_end, if_neg (by decide)]
      clear rd
      go_wp2_with fail
      refine (HOL.out _ HS.out).mono ?_; rintro e w2 ⟨rfl, h⟩
      go_wp2_with fail
      go_ret
      rw [HN.out]
      exact ⟨rfl, h⟩
end Go.Proofs.Ytlmnljijpgpmiaa
