/- Layer 10: the program's machine as an object; its small functions. -/
import Derived.Test.YtojkeahffabifaaC8d
import Derived.Test.YtojkeahffabifaaC2h
import Derived.Test.YtojkeahffabifaaC3k
import Derived.Test.YtojkeahffabifaaS10
import Derived.Deep.RegionHeld3
import Derived.RegionTactic
import Derived.Deep.RegionLaw
namespace Go.Proofs.Ytojkeahffabifaa
open Go.RowKit
set_option linter.unusedVariables false
def looksV (mu : Bool) (x : Nat) : Value := .func (.func (if mu = true then 35 else 33)) #[.pointer (some ⟨x, 0, none⟩)] #[]
def needsV (mu : Bool) (x : Nat) : Value := .func (.func (if mu = true then 36 else 34)) #[.pointer (some ⟨x, 0, none⟩)] #[]
def comC (x xc : Nat) (n last fr : Int) (rs : Nat → Int) (mu : Bool) (st seen stamp : Int) : Array Value := #[.int .i64 0, .int .i64 n, .int .i64 0, .int .i64 last, .bool false, .int .i64 0, .slice none 0 0, .int .i64 fr, .int .i64 seen, .int .u64 (rs 0), .int .u64 (rs 1), .int .u64 (rs 2), .int .u64 (rs 3), .int .u64 (rs 4), .int .u64 (rs 5), .int .u64 (rs 6), .int .u64 (rs 7), .pointer (some ⟨xc, 0, none⟩), .int .i64 st, .int .i64 stamp, looksV mu x, needsV mu x]
abbrev ComH (x xc : Nat) (n last fr : Int) (rs : Nat → Int) (mu : Bool) (st seen stamp : Int) : HP := BlkH x (comC x xc n last fr rs mu st seen stamp) 104
/-- What the walk reads of the machine. -/
structure ComR (w : World) (x xc : Nat) (n last fr : Int) (rs : Nat → Int) (mu : Bool) (st seen stamp : Int) : Prop where
  c1 : w.cell? ⟨x, 1, none⟩ = some (.int .i64 n)
  c3 : w.cell? ⟨x, 3, none⟩ = some (.int .i64 last)
  c7 : w.cell? ⟨x, 7, none⟩ = some (.int .i64 fr)
  c8 : w.cell? ⟨x, 8, none⟩ = some (.int .i64 seen)
  r0 : w.cell? ⟨x, 9, none⟩ = some (.int .u64 (rs 0))
  r1 : w.cell? ⟨x, 10, none⟩ = some (.int .u64 (rs 1))
  r2 : w.cell? ⟨x, 11, none⟩ = some (.int .u64 (rs 2))
  r3 : w.cell? ⟨x, 12, none⟩ = some (.int .u64 (rs 3))
  r4 : w.cell? ⟨x, 13, none⟩ = some (.int .u64 (rs 4))
  r5 : w.cell? ⟨x, 14, none⟩ = some (.int .u64 (rs 5))
  r6 : w.cell? ⟨x, 15, none⟩ = some (.int .u64 (rs 6))
  r7 : w.cell? ⟨x, 16, none⟩ = some (.int .u64 (rs 7))
  c17 : w.cell? ⟨x, 17, none⟩ = some (.pointer (some ⟨xc, 0, none⟩))
  c18 : w.cell? ⟨x, 18, none⟩ = some (.int .i64 st)
  c19 : w.cell? ⟨x, 19, none⟩ = some (.int .i64 stamp)
  c20 : w.cell? ⟨x, 20, none⟩ = some (looksV mu x)
  c21 : w.cell? ⟨x, 21, none⟩ = some (needsV mu x)
  fz : ∀ o, w.frozen? ⟨x, o, none⟩ = false
theorem com_cells {w : World} {x xc : Nat} {n last fr : Int} {rs : Nat → Int} {mu : Bool} {st seen stamp : Int} {T : TypeId} (h : w.heap[x]? = some (.cells (comC x xc n last fr rs mu st seen stamp) T)) : ComR w x xc n last fr rs mu st seen stamp where
  c1 := by simp [World.cell?, h, comC]
  c3 := by simp [World.cell?, h, comC]
  c7 := by simp [World.cell?, h, comC]
  c8 := by simp [World.cell?, h, comC]
  r0 := by simp [World.cell?, h, comC]
  r1 := by simp [World.cell?, h, comC]
  r2 := by simp [World.cell?, h, comC]
  r3 := by simp [World.cell?, h, comC]
  r4 := by simp [World.cell?, h, comC]
  r5 := by simp [World.cell?, h, comC]
  r6 := by simp [World.cell?, h, comC]
  r7 := by simp [World.cell?, h, comC]
  c17 := by simp [World.cell?, h, comC]
  c18 := by simp [World.cell?, h, comC]
  c19 := by simp [World.cell?, h, comC]
  c20 := by simp [World.cell?, h, comC]
  c21 := by simp [World.cell?, h, comC]
  fz := fun o => by simp [World.frozen?, h]
theorem cfg_cells {w : World} {p : Nat} {a b c d e f g : Value} {T : TypeId} (h : w.heap[p]? = some (.cells #[a, b, c, d, e, f, g] T)) :
    w.cell? ⟨p, 0, none⟩ = some a ∧ w.cell? ⟨p, 1, none⟩ = some b ∧ w.cell? ⟨p, 2, none⟩ = some c ∧ w.cell? ⟨p, 3, none⟩ = some d ∧ w.cell? ⟨p, 4, none⟩ = some e ∧ w.cell? ⟨p, 5, none⟩ = some f ∧ w.cell? ⟨p, 6, none⟩ = some g ∧ ∀ o, w.frozen? ⟨p, o, none⟩ = false :=
  ⟨by simp [World.cell?, h], by simp [World.cell?, h], by simp [World.cell?, h], by simp [World.cell?, h], by simp [World.cell?, h], by simp [World.cell?, h], by simp [World.cell?, h], fun o => by simp [World.frozen?, h]⟩
/-- The program's New has answered. -/
def ComNew (w : World) (n last fr : Int) (rs : Nat → Int) (mu : Bool) (e : Ending) (w' : World) : Prop := ∃ x xc, e = .returned (.tuple #[.pointer (some ⟨x, 0, none⟩), .int .i64 0]) ∧ AtW w (Star (ChkH xc n fr rs false ⟨0, fr, 0, 0, 0⟩) (ComH x xc n last fr rs mu 0 0 0)) w'
set_option maxRecDepth 100000 in
theorem comNew_any (c0 n c2 last : Int) (mu : Bool) (c5 : Int) (c6 : Value) (fr : Int) (rs : Nat → Int) (h1 : 1 ≤ n) (h2 : n ≤ 16) (h3 : 0 ≤ fr) (h4 : 1 ≤ last) (h5 : last ≤ 1099511627776) (w : World) :
    Calls Try.prog 11 #[.agg #[.int .i64 c0, .int .i64 n, .int .i64 c2, .int .i64 last, .bool mu, .int .i64 c5, c6], .int .i64 fr, (.agg #[.int .u64 (rs 0), .int .u64 (rs 1), .int .u64 (rs 2), .int .u64 (rs 3), .int .u64 (rs 4), .int .u64 (rs 5), .int .u64 (rs 6), .int .u64 (rs 7)])] w (ComNew w n last fr rs mu) := by
  have HC := Lib.hid (chkNew_any n fr rs false h1 h2 h3)
  have hmf : ∀ (fn : Fn) (first cap : Array Value) (w : World), (Instr.makeFunc fn first cap).run Try.prog w = .ok (.func fn first cap) w := fun _ _ _ _ => rfl
  have hst : ∀ (fn : Fn) (first cap : Array Value) (a : Addr) (w : World), (store a (.func fn first cap)).run Try.prog w = stored Try.prog w a (.func fn first cap) .plain := fun fn first cap a w => run_store Try.prog w a _ _ rfl
  have HB2 : Hid (∀ a b, Below w.heap.size w ((w.alloc a).alloc b)) := fun a b => ((Below.refl _ _).alloc (Nat.le_refl _) _).alloc (by simp) _
  have HBX0 : Hid (∀ (wb : World) a b, Below ((w.alloc a).alloc b).heap.size ((w.alloc a).alloc b) wb → wb.heap[w.heap.size]? = some a ∧ wb.heap[w.heap.size + 1]? = some b) := fun wb a b hb => ⟨(hb.block _ (by simp; omega)).trans (heapAlloc_old (heapAlloc w a) b), (hb.block _ (by simp)).trans (by
    have h := heapAlloc (w.alloc a) b
    rwa [World.size_alloc] at h)⟩
  clear h1 h2 h3
  go_enter Try.func11, Try.ntmps11
  go_wp2_with fail
  refine (HC.out _).mono ?_; rintro e w2 ⟨xc, rfl, h⟩
  obtain ⟨hx1, hx2⟩ := HBX0.out _ _ _ h.below
  have H2 := Lib.hid (h.up (HB2.out _ _))
  obtain ⟨d0, d1, d2, d3, d4, d5, d6, d7, dz⟩ := blk_facts hx2
  obtain ⟨g0, g1, g2, g3, g4, g5, g6, gz⟩ := cfg_cells hx1
  have hl1 := heap_lt hx1
  have hl2 := heap_lt hx2
  have HX1 := Lib.hid hx1
  clear h hx1 hx2 HB2 HBX0 HC
  go_wp2_with fail
  go_region
  obtain ⟨cs, hcs⟩ : ∃ cs : Array Value, cs = #[.int .i64 0, .int .i64 n, .int .i64 0, .int .i64 last, .bool false, .int .i64 0, .slice none 0 0, .int .i64 fr, .int .i64 0, .int .u64 (rs 0), .int .u64 (rs 1), .int .u64 (rs 2), .int .u64 (rs 3), .int .u64 (rs 4), .int .u64 (rs 5), .int .u64 (rs 6), .int .u64 (rs 7), .pointer (some ⟨xc, 0, none⟩), .int .i64 0, .int .i64 0, .nilFunc, .nilFunc] := ⟨_, rfl⟩
  have HW3 := Lib.hid ((H2.out.box (BlkH.good _ _ _) cs 104).calm ((BlkH.good _ _ _).star (BlkH.good _ _ _)) ((Below.refl _ _).drew))
  rw [← hcs]
  generalize hw3 : (w2.alloc (.cells cs 104)).drew = w3 at *
  have hb3 : w3.heap[w2.heap.size]? = some (.cells cs 104) := HW3.out.has.right.blk
  have hbo : ∀ k, k < w2.heap.size → w3.heap[k]? = w2.heap[k]? := fun k hk => by rw [← hw3]; exact Below.heap_alloc _ _ _ hk
  obtain ⟨g0, g1, g2, g3, g4, g5, g6, gz⟩ := cfg_cells ((hbo _ hl1).trans HX1.out)
  have b20 : w3.cell? ⟨w2.heap.size, 20, none⟩ = some .nilFunc := by simp [World.cell?, hb3, hcs]
  have b21 : w3.cell? ⟨w2.heap.size, 21, none⟩ = some .nilFunc := by simp [World.cell?, hb3, hcs]
  have bz : ∀ o, w3.frozen? ⟨w2.heap.size, o, none⟩ = false := fun o => by simp [World.frozen?, hb3]
  have HCS := Lib.hid hcs
  have hxb := heap_lt hb3
  clear hbo hb3 hw3 hcs
  have key : Hid (∀ (v1 v2 : Value), AtW w (Star (ChkH xc n fr rs false ⟨0, fr, 0, 0, 0⟩) (BlkH w2.heap.size ((cs.setIfInBounds 20 v1).setIfInBounds 21 v2) 104)) ((w3.setCell ⟨w2.heap.size, 20, none⟩ v1).setCell ⟨w2.heap.size, 21, none⟩ v2)) := by
    intro v1 v2
    obtain ⟨F, k1, k2, k3⟩ := HW3.out
    exact AtW.stp k2 k3 (((Stp.refl k1).move (Moves.right (BlkH.good _ _ _) (BlkH.set 20 v1))).move (Moves.right (BlkH.good _ _ _) (BlkH.set 21 v2)))
  have key4 : Hid (∀ (v1 v2 v3 v4 : Value), AtW w (Star (ChkH xc n fr rs false ⟨0, fr, 0, 0, 0⟩) (BlkH w2.heap.size ((((cs.setIfInBounds 20 v1).setIfInBounds 21 v2).setIfInBounds 20 v3).setIfInBounds 21 v4) 104)) ((((w3.setCell ⟨w2.heap.size, 20, none⟩ v1).setCell ⟨w2.heap.size, 21, none⟩ v2).setCell ⟨w2.heap.size, 20, none⟩ v3).setCell ⟨w2.heap.size, 21, none⟩ v4)) := by
    intro v1 v2 v3 v4
    obtain ⟨F, k1, k2, k3⟩ := HW3.out
    exact AtW.stp k2 k3 (((((Stp.refl k1).move (Moves.right (BlkH.good _ _ _) (BlkH.set 20 v1))).move (Moves.right (BlkH.good _ _ _) (BlkH.set 21 v2))).move (Moves.right (BlkH.good _ _ _) (BlkH.set 20 v3))).move (Moves.right (BlkH.good _ _ _) (BlkH.set 21 v4)))
  cases mu
  · go_wp2_with fail
    go_ret2
    refine ⟨w2.heap.size, xc, rfl, ?_⟩
    have k := key.out (looksV false w2.heap.size) (needsV false w2.heap.size)
    rw [HCS.out] at k
    exact k
  · go_wp2_with fail
    go_ret2
    refine ⟨w2.heap.size, xc, rfl, ?_⟩
    have k := key4.out (looksV false w2.heap.size) (needsV false w2.heap.size) (looksV true w2.heap.size) (needsV true w2.heap.size)
    rw [HCS.out] at k
    exact k
end Go.Proofs.Ytojkeahffabifaa
