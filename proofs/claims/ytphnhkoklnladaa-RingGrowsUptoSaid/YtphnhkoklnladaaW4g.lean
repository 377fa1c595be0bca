/- The walk of RingGrows. -/
import Derived.Test.YtphnhkoklnladaaS4g
import Derived.Test.YtphnhkoklnladaaC4u
import Derived.Test.YtphnhkoklnladaaC4y
import Derived.Test.YtphnhkoklnladaaC3h
import Derived.Test.YtphnhkoklnladaaRT
import Derived.StillTailTactics
import Derived.Deep.RegionLaw
import Derived.Deep.CutBlock
import Derived.Deep.CutRange
import Derived.Outline
namespace Go.Proofs.Ytphnhkoklnladaa
open Go.RowKit
set_option linter.unusedVariables false
theorem shown4g_any (w : World) : Calls Try.prog 5 #[] w fun e w' => e = .returned (.bool true) ∧ w = w' := by
  go_enter Try.func5, Try.ntmps5
  go_wp2
  go_ret
  exact ⟨rfl, rfl⟩
def pick4Z (x n : Int) : Int := x % n
theorem pick4_t (x n : Int) (h1 : 1 ≤ n) (h2 : n ≤ 1000000) : (x.tmod n < 0 → wrap64 (x.tmod n + n) = pick4Z x n) ∧ (¬ x.tmod n < 0 → x.tmod n = pick4Z x n) := by
  have hb1 := Int.emod_nonneg x (show n ≠ 0 by omega)
  have hb2 := Int.emod_lt_of_pos x (show 0 < n by omega)
  have ht : x.tmod n = x % n - (if 0 ≤ x ∨ n ∣ x then 0 else n.natAbs) := Int.tmod_eq_emod
  unfold pick4Z
  constructor
  · intro h
    have e : x.tmod n + n = x % n := by split at ht <;> omega
    rw [e, wrap64_id _ (by omega) (by omega)]
  · intro h
    split at ht <;> omega
theorem pick4_range (x n : Int) (h1 : 1 ≤ n) : 0 ≤ pick4Z x n ∧ pick4Z x n < n := ⟨Int.emod_nonneg x (by omega), Int.emod_lt_of_pos x (by omega)⟩
theorem pick4_any (x n : Int) (h1 : 1 ≤ n) (h2 : n ≤ 1000000) (w : World) : Calls Try.prog 6 #[.int .i64 x, .int .i64 n] w fun e w' => e = .returned (.int .i64 (pick4Z x n)) ∧ w = w' := by
  obtain ⟨ha, hb⟩ := pick4_t x n h1 h2
  by_cases hneg : x.tmod n < 0
  · have e := Lib.hid (ha hneg)
    clear ha hb
    go_enter Try.func6, Try.ntmps6
    go_wp2
    go_ret
    exact ⟨ret_i64 e.out, rfl⟩
  · have e := Lib.hid (hb hneg)
    clear ha hb
    go_enter Try.func6, Try.ntmps6
    go_wp2
    go_ret
    exact ⟨ret_i64 e.out, rfl⟩
/-- The memory, and what the ring has become. -/
def GrAt (w : World) (p size k : Nat) (n a d : Int) (wr : World) : Prop := ∃ l, AtW w (MemH p size 1 l) wr ∧ RG size l n a d ∧ l.length ≤ 2 * k ∧ OkW l ∧ n ≤ k
section
variable {w wr w' : World} {p size k : Nat} {n a d : Int}
theorem GrAt.below (h : GrAt w p size k n a d wr) : Below w.heap.size w wr := by
  obtain ⟨l, h1, _⟩ := h
  exact h1.below
theorem GrAt.calm (h : GrAt w p size k n a d wr) (hb : Below wr.heap.size wr w') : GrAt w p size k n a d w' := by
  obtain ⟨l, h1, h2⟩ := h
  exact ⟨l, h1.calm (MemH.good _ _ _ _) hb, h2⟩
theorem GrAt.up (h : GrAt w p size k n a d wr) : GrAt w p size (k + 1) n a d wr := by
  obtain ⟨l, h1, h2, h3, h4, h5⟩ := h
  exact ⟨l, h1, h2, by omega, h4, by omega⟩
theorem GrAt.rel (h : GrAt w p size k n a d wr) : 0 ≤ d ∧ d ≤ a ∧ a ≤ n ∧ n ≤ d + size ∧ n ≤ k := by
  obtain ⟨l, h1, h2, h3, h4, h5⟩ := h
  exact ⟨h2.d0, h2.da, h2.an, h2.nd, h5⟩
theorem gr_pub (h : GrAt w p size k n a d wr) (hk : k ≤ 2000000) (hs : n - d < size) :
    Calls Try.prog 8 #[.pointer (some ⟨p, 0, none⟩), .int .i64 1, .agg #[.int .i64 1, .int .i64 0, .int .i64 0], .int .i64 (n + 1)] wr fun e w' => (∃ z, e = .returned (.int .i64 z)) ∧ GrAt w p size (k + 1) (n + 1) a d w' := by
  obtain ⟨l, h1, h2, h3, h4, h5⟩ := h
  have hI : I64 (n + 1) := ⟨by have := h2.d0; have := h2.da; have := h2.an; omega, by omega⟩
  refine ((store_any p size 1 l (by omega) 1 1 0 0 (n + 1)).at h1).mono ?_
  rintro e w' ⟨rfl, h⟩
  have := putL_len size 1 l 1 1 0 0 (n + 1)
  exact ⟨⟨_, rfl⟩, _, h, h2.pub hs, by omega, okW_put h4 1 1 0 0 (n + 1) hI, by omega⟩
/-- Between the two stores of laying. -/
def GrMid (w : World) (p size k : Nat) (n a d : Int) (wr : World) : Prop := ∃ l, AtW w (MemH p size 1 (putL size 1 l 2 3 (slotZ (a + 1) size) 3 (a + 1 + 7))) wr ∧ RG size l n a d ∧ l.length ≤ 2 * k ∧ OkW l ∧ n ≤ k
theorem gr_lay1 (h : GrAt w p size k n a d wr) (hk : k ≤ 2000000) :
    Calls Try.prog 8 #[.pointer (some ⟨p, 0, none⟩), .int .i64 2, .agg #[.int .i64 3, .int .i64 (slotZ (a + 1) size), .int .i64 3], .int .i64 (a + 1 + 7)] wr fun e w' => (∃ z, e = .returned (.int .i64 z)) ∧ GrMid w p size k n a d w' := by
  obtain ⟨l, h1, h2, h3, h4, h5⟩ := h
  refine ((store_any p size 1 l (by omega) 2 3 (slotZ (a + 1) size) 3 (a + 1 + 7)).at h1).mono ?_
  rintro e w' ⟨rfl, h⟩
  exact ⟨⟨_, rfl⟩, l, h, h2, h3, h4, h5⟩
theorem gr_lay2 (h1 : 1 ≤ size) (h2 : size ≤ 16) (h : GrMid w p size k n a d wr) (hk : k ≤ 2000000) (hs : a < n) :
    Calls Try.prog 8 #[.pointer (some ⟨p, 0, none⟩), .int .i64 2, .agg #[.int .i64 2, .int .i64 (slotZ (a + 1) size), .int .i64 0], .int .i64 (2 * (a + 1))] wr fun e w' => (∃ z, e = .returned (.int .i64 z)) ∧ GrAt w p size (k + 1) n (a + 1) d w' := by
  obtain ⟨l, g1, g2, g3, g4, g5⟩ := h
  have q0 := g2.d0
  have q1 := g2.da
  have l1 := putL_len size 1 l 2 3 (slotZ (a + 1) size) 3 (a + 1 + 7)
  refine ((store_any p size 1 _ (by omega) 2 2 (slotZ (a + 1) size) 0 (2 * (a + 1))).at g1).mono ?_
  rintro e w' ⟨rfl, h⟩
  have l2 := putL_len size 1 (putL size 1 l 2 3 (slotZ (a + 1) size) 3 (a + 1 + 7)) 2 2 (slotZ (a + 1) size) 0 (2 * (a + 1))
  exact ⟨⟨_, rfl⟩, _, h, g2.lay h1 h2 hs, by omega, okW_put (okW_put g4 2 3 _ 3 _ ⟨by omega, by omega⟩) 2 2 _ 0 _ ⟨by omega, by omega⟩, by omega⟩
theorem gr_done (h1 : 1 ≤ size) (h2 : size ≤ 16) (h : GrAt w p size k n a d wr) (hk : k ≤ 2000000) (hs : d < a) :
    Calls Try.prog 8 #[.pointer (some ⟨p, 0, none⟩), .int .i64 3, .agg #[.int .i64 2, .int .i64 (slotZ (d + 1) size), .int .i64 0], .int .i64 (2 * (d + 1) + 1)] wr fun e w' => (∃ z, e = .returned (.int .i64 z)) ∧ GrAt w p size (k + 1) n a (d + 1) w' := by
  obtain ⟨l, g1, g2, g3, g4, g5⟩ := h
  have q0 := g2.d0
  have q2 := g2.an
  have l1 := putL_len size 1 l 3 2 (slotZ (d + 1) size) 0 (2 * (d + 1) + 1)
  refine ((store_any p size 1 l (by omega) 3 2 (slotZ (d + 1) size) 0 (2 * (d + 1) + 1)).at g1).mono ?_
  rintro e w' ⟨rfl, h⟩
  exact ⟨⟨_, rfl⟩, _, h, g2.done h1 h2 hs, by omega, okW_put g4 3 2 _ 0 _ ⟨by omega, by omega⟩, by omega⟩
theorem gr_newest (h : GrAt w p size k n a d wr) : Calls Try.prog 9 #[.pointer (some ⟨p, 0, none⟩)] wr fun e w' => e = .returned (.int .i64 n) ∧ GrAt w p size k n a d w' := by
  have HP := Lib.hid h
  obtain ⟨l, ⟨F, hO, _, _⟩, g2, _⟩ := h
  refine (newest_any p size 1 l wr F hO).mono ?_
  rintro e w' ⟨rfl, hb⟩
  exact ⟨by rw [g2.nw], HP.out.calm hb⟩
theorem gr_complete (h1 : 1 ≤ size) (h2 : size ≤ 16) (h : GrAt w p size k n a d wr) : Calls Try.prog 10 #[.pointer (some ⟨p, 0, none⟩)] wr fun e w' => e = .returned (.int .i64 d) ∧ GrAt w p size k n a d w' := by
  have HP := Lib.hid h
  obtain ⟨l, ⟨F, hO, _, _⟩, g2, g3, g4, _⟩ := h
  refine (complete_any p size 1 h1 h2 l g4 wr F hO).mono ?_
  rintro e w' ⟨rfl, hb⟩
  exact ⟨by rw [g2.compl h1 h2], HP.out.calm hb⟩
/-- The entries: at k a stamp, its mark, its word 3. -/
theorem gr_entries (h1 : 1 ≤ size) (h2 : size ≤ 16) (h : GrAt w p size k n a d wr) : Calls Try.prog 11 #[.pointer (some ⟨p, 0, none⟩)] wr fun e w' => ∃ g len cap mk fs xs, e = .returned (.slice g len cap) ∧ len = manyR n size ∧ xs = stampsL n size ∧ w'.ownsRow wr.heap.size 39 10 (.slice g len cap) len (entsG mk fs xs) ∧ (∀ s, 1 ≤ s → n - size < s → s ≤ n → mk s = (if s ≤ d then 3 else if s ≤ a then 2 else 1) ∧ fs s 3 = if s ≤ a then IntKind.u64.wrap (s + 7) else 0) ∧ GrAt w p size k n a d w' := by
  have HP := Lib.hid h
  obtain ⟨l, ⟨F, hO, _, _⟩, g2, g3, g4, _⟩ := h
  refine (entries_any p size 1 h1 h2 l g4 wr F hO).mono ?_
  rintro e w' ⟨v, rfl, hv, hb⟩
  rw [g2.nw] at hv
  obtain ⟨g, cap, rfl⟩ := ownAt_form hv
  refine ⟨g, _, cap, mkR l size, fun s j => if ldR l size s then sgR l size s j else 0, stampsL n size, rfl, stampsL_len n size, rfl, hv, fun s k1 k2 k3 => ⟨g2.mark h1 h2 k1 k2 k3, g2.word3 h1 h2 k1 k2 k3⟩, HP.out.calm hb⟩
end
end Go.Proofs.Ytphnhkoklnladaa
