/- Layer 4: what a ring's words say: head, Newest; the stamps, an iterator. -/
import Derived.RangeFuncNested
import Derived.RangeFuncBound
import Derived.RangeFuncCalls
import Derived.RangeFuncLeaves
import Derived.RangeFuncBox
import Derived.Shelf.Abstract
import Derived.Shelf.RegionOpen
import Derived.WalkKit
import Derived.OwnWalkIn
import Derived.TacticsInMore
import Derived.LoopNIn
import Derived.LoopIn
import Derived.RegionIn
import Derived.Test.YtphnhkoklnladaaC3p
import Derived.Test.YtphnhkoklnladaaC3d
import Derived.Test.YtphnhkoklnladaaC4
namespace Go.Proofs.Ytphnhkoklnladaa
open Go.RowKit Go.Shelf
set_option linter.unusedVariables false
attribute [local go_sem] Oper.semAt_some
theorem newest_any (p ring cells : Nat) (l : List Acc) : Looks Try.prog 9 #[.pointer (some ⟨p, 0, none⟩)] (MemH p ring cells l) (.returned (.int .i64 (wordOf l 1 0 0))) := by
  rintro w F hO
  have HP := Lib.hid (peek_in p ring cells l 1 0 0 (.inl ⟨rfl, rfl, rfl⟩) w F hO)
  clear hO
  go_enter Try.func9, Try.ntmps9
  go_wp2_with fail
  refine HP.out.mono ?_; rintro e w1 ⟨rfl, hb⟩
  have HB := Lib.hid hb
  clear hb HP
  go_wp2_with fail
  go_ret
  exact ⟨rfl, HB.out⟩
theorem head_any (p ring cells : Nat) (h1 : 1 ≤ ring) (h2 : ring ≤ 16) (l : List Acc) (s : Int) : Looks Try.prog 25 #[.pointer (some ⟨p, 0, none⟩), .int .i64 s] (MemH p ring cells l) (.returned (.int .i64 (wordOf l 2 (slotZ s ring) 0))) := by
  rintro w F hO
  have HZ := Lib.hid (sizes_any p ring cells l w F hO)
  have HP := Lib.hid (fun w1 (hb : Below w.heap.size w w1) => peek_in p ring cells l 2 (slotZ s ring) 0 (.inr (.inl ⟨rfl, slotZ_lt s ring (by omega) (by omega), rfl⟩)) w1 F ((MemH.good _ _ _ _).calm hO hb))
  have HS := Lib.hid (fun w => slot_any s ring w)
  clear hO
  go_enter Try.func25, Try.ntmps25
  go_wp2_with fail
  refine HZ.out.mono ?_; rintro e w1 ⟨rfl, hb⟩
  have HB := Lib.hid hb
  clear hb HZ
  go_wp2_with fail
  refine (HS.out w1).mono ?_; rintro e w' ⟨rfl, rfl⟩
  go_wp2_with fail
  refine (HP.out w1 HB.out).mono ?_; rintro e w2 ⟨rfl, hb⟩
  have HB2 := Lib.hid (HB.out.trans (hb.mono HB.out.size))
  clear hb HP HB
  go_wp2_with fail
  go_ret
  exact ⟨rfl, HB2.out⟩
/-- How many stamps the ring has room for; and they. -/
def manyR (n : Int) (size : Nat) : Nat := (min n size).toNat
def stampsL (n : Int) (size : Nat) : List Int := (List.range (manyR n size)).map fun (i : Nat) => n - manyR n size + 1 + i
theorem stampsL_len (n : Int) (size : Nat) : (stampsL n size).length = manyR n size := by simp [stampsL]
theorem stampsL_next {n : Int} {size j : Nat} (h : j < manyR n size) : (stampsL n size).take (j + 1) = (stampsL n size).take j ++ [n - manyR n size + 1 + j] := by
  rw [List.take_add_one]
  have : (stampsL n size)[j]? = some (n - manyR n size + 1 + j) := by simp [stampsL, h]
  rw [this]; rfl
/-- What a round keeps. -/
def KpS (n₀ B1 B2 : Nat) (W W' : World) : Prop := Below n₀ W W' ∧ W'.heap[B1]? = W.heap[B1]? ∧ W'.heap[B2]? = W.heap[B2]?
theorem KpS.t {n₀ B1 B2 : Nat} {A B C : World} (h : KpS n₀ B1 B2 A B) (k : KpS n₀ B1 B2 B C) : KpS n₀ B1 B2 A C := ⟨h.1.trans k.1, k.2.1.trans h.2.1, k.2.2.trans h.2.2⟩
theorem KpS.b {n₀ B1 B2 : Nat} {w : World} (hn : n₀ ≤ w.heap.size) (h1 : B1 < w.heap.size) (h2 : B2 < w.heap.size) (W : World) (l : Nat) (o o' : Obj) (hl : w.heap.size ≤ l) (h : W.heap[l]? = some o) (c1 : o.isCells = false) (c2 : o.isWalk = false) : KpS n₀ B1 B2 W (W.putObj l o') :=
  ⟨belowK_b hn W l o o' hl h c1 c2, World.putObj_heap_other (by omega), World.putObj_heap_other (by omega)⟩
set_option maxRecDepth 100000 in
set_option maxHeartbeats 4000000 in
theorem stamps1_in (F : Fence) (nn : Nat) (hf : F.fn 34) (hro : F.round = none) (hn : 1 ≤ nn) (l n₀ B1 B2 : Nat) (n : Int) (hI : I64 n) (size : Nat) (hs1 : 1 ≤ size) (hs2 : size ≤ 16) (J Jx : List Int → World → Prop)
    (hY : ∀ pre x W, J pre W → pre.length < (stampsL n size).length → YieldAt F (nn - 1) Try.prog l #[.int .i64 x] W fun e W' =>
      (e = .returned (.bool true) ∧ J (pre ++ [x]) W' ∧ KpS n₀ B1 B2 W W') ∨ (e = .returned (.bool false) ∧ Jx (pre ++ [x]) W'))
    (W : World) (hb1 : Boxed W B1 2 (.int .i64 n)) (hb2 : Boxed W B2 3 (.int .i64 size)) (h0 : J [] W) :
    CallsIn F nn Try.prog 34 #[.func (.yield l) #[] #[], .pointer (some ⟨B1, 0, none⟩), .pointer (some ⟨B2, 0, none⟩)] W fun e W' => (∃ v, e = .returned v) ∧
      ((∃ ys, ys = stampsL n size ∧ J ys W') ∨ (∃ pre, pre <+: stampsL n size ∧ Jx pre W')) := by
  obtain ⟨hI1, hI2⟩ := hI
  refine callsIn_of_wp Try.func34 rfl hf ?_ hro
  simp only [Try.ntmps34, List.size_toArray, List.length_cons, List.length_nil, Nat.reduceAdd, Nat.reduceSub, Array.replicate_succ, Array.replicate_zero, List.push_toArray, List.append_toArray, List.nil_append, List.cons_append]
  have c1 := hb1.cell
  have c2 := hb2.cell
  by_cases hlt : n < 1
  · have HL : Hid (stampsL n size = []) := by
      show _ = _
      unfold stampsL manyR
      rw [show (min n (size : Int)).toNat = 0 by omega]; rfl
    gi_wp2
    refine bodyPost_ret (results_none rfl _ _ _) rfl ?_
    exact ⟨⟨_, rfl⟩, .inl ⟨[], HL.out.symm, h0⟩⟩
  · have hm : (manyR n size : Int) = min n size := by unfold manyR; omega
    have hm1 : 1 ≤ manyR n size := by omega
    have HLN := Lib.hid (stampsL_len n size)
    have HNX := Lib.hid (fun j h => stampsL_next (n := n) (size := size) (j := j) h)
    have HT : Hid (∀ j, manyR n size ≤ j → (stampsL n size).take j = stampsL n size) := fun j hj => List.take_of_length_le (by rw [stampsL_len]; exact hj)
    generalize manyR n size = m at *
    have hw : IntKind.i64.wrap (min n (size : Int) - 1) = (m : Int) - 1 := by rw [IntKind.wrap_i64]; omega
    have HM := Lib.hid hm
    clear hw hm
    gi_wp2
    all_goals
      gi_loopw [4] (fun kv wr => ∃ (j : Nat) (kz : Int), kz = (m : Int) - 1 - j ∧ j ≤ m ∧ kv = .int .i64 kz ∧ Boxed wr B1 2 (.int .i64 n) ∧ Boxed wr B2 3 (.int .i64 size) ∧ J ((stampsL n size).take j) wr) (fun kv _ => (intOf kv + 1).toNat)
      case atStart => exact ⟨0, _, by have := HM.out; omega, by omega, rfl, hb1, hb2, h0⟩
      case round =>
        obtain ⟨j, kz, hkz, hj, rfl, hc1, hc2, hJ⟩ := hrel
        have c1 := hc1.cell
        have c2 := hc2.cell
        have hkn : kz ≤ n - 1 := by have := HM.out; omega
        have hk16 : kz ≤ 16 := by have := HM.out; omega
        have HKZ := Lib.hid hkz
        clear hkz
        by_cases hlt2 : 0 ≤ kz
        · have hjm : j < m := by have := HKZ.out; omega
          have hx : n - kz = n - (m : Int) + 1 + j := by have := HKZ.out; omega
          obtain ⟨fn, tmps, assign, body, hy, hR⟩ := hY _ (n - kz) wr hJ (by rw [List.length_take, HLN.out]; omega)
          have HTN := Lib.hid (HNX.out j hjm)
          rw [← hx] at HTN
          clear hx
          gi_wp2
          refine hR.mono ?_
          rintro e W3 (⟨rfl, hJ3, hk3⟩ | ⟨rfl, hJx3⟩)
          · have hd1 : Boxed W3 B1 2 (.int .i64 n) := hk3.2.1.trans hc1
            have hd2 : Boxed W3 B2 3 (.int .i64 size) := hk3.2.2.trans hc2
            rw [← HTN.out] at hJ3
            have HJ3 := Lib.hid hJ3
            clear hJ3 hk3 hR hy hJ HTN hc1 hc2
            gi_wp2
            go_roundw
            case rel => exact ⟨j + 1, _, by have := HKZ.out; omega, by omega, rfl, hd1, hd2, HJ3.out⟩
            case measure => simp [intOf]; omega
          · have HP : Hid ((stampsL n size).take j ++ [n - kz] <+: stampsL n size) := by rw [← HTN.out]; exact List.take_prefix _ _
            gi_wp2
            refine bodyPost_ret (results_none rfl _ _ _) rfl ?_
            exact ⟨⟨_, rfl⟩, .inr ⟨_, HP.out, hJx3⟩⟩
        · rw [HT.out j (by have := HKZ.out; omega)] at hJ
          gi_wp2
          go_end0
          first
          | exact ⟨⟨_, rfl⟩, .inl ⟨_, rfl, hJ⟩⟩
          | exact ⟨⟨_, rfl⟩, .inl hJ⟩
          | exact .inl hJ
end Go.Proofs.Ytphnhkoklnladaa
