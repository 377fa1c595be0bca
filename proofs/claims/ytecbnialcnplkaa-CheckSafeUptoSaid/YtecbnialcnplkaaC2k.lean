/- Contracts of layer 2: the reference's Bits, Empty, Meets; Meets of the program. -/
import Derived.Test.YtecbnialcnplkaaC2j
import Derived.Test.YtecbnialcnplkaaS2c
import Derived.OwnWalk
namespace Go.Proofs.Ytecbnialcnplkaa
open Go.RowKit
set_option linter.unusedVariables false
theorem own_below {w w1 : World} {B e size n : Nat} {v : Value} {xs : List Value} (h : w.ownsRow B e size v n xs) (hb : Below w.heap.size w w1) : w1.ownsRow B e size v n xs :=
  ⟨h.1, h.2.elim Or.inl fun ⟨g, cap, cur, hv, hg, hh, r⟩ => Or.inr ⟨g, cap, cur, hv, hg, (hb.block g (Array.getElem?_eq_some_iff.1 hh).1).trans hh, r⟩⟩
theorem own_form {w : World} {B e size n : Nat} {v : Value} {xs : List Value} (h : w.ownsRow B e size v n xs) : ∃ a c, v = .slice a n c := by
  rcases h.2 with ⟨rfl, rfl⟩ | ⟨g, cap, cur, rfl, _⟩
  · exact ⟨_, _, rfl⟩
  · exact ⟨_, _, rfl⟩
/-- A list of ints in new memory. -/
def IntsOut (w : World) (xs : List Int) (e : Ending) (w' : World) : Prop :=
  ∃ v, e = .returned v ∧ w'.ownsRow w.heap.size 3 1 v xs.length (xs.map (Value.int .i64)) ∧ Below w.heap.size w w'
theorem infoInt : (Try.prog.info? 3).map (fun i => (i.zero, i.size, i.bytes)) = some (some (.int .i64 0), 1, 8) := by kernel_rfl
theorem ownsRow_mono {w : World} {B B' e size n : Nat} {v : Value} {xs : List Value} (h : w.ownsRow B e size v n xs) (hB : B' ≤ B) : w.ownsRow B' e size v n xs :=
  ⟨h.1, h.2.elim Or.inl fun ⟨g, cap, cur, hv, hg, r⟩ => Or.inr ⟨g, cap, cur, hv, Nat.le_trans hB hg, r⟩⟩
set_option maxRecDepth 100000 in
set_option maxHeartbeats 1000000 in
theorem refBits_any (s : Nat → Int) (hs : Wds s) (w : World) : Calls Try.prog 66 #[(.agg #[.int .u64 (s 0), .int .u64 (s 1), .int .u64 (s 2), .int .u64 (s 3), .int .u64 (s 4), .int .u64 (s 5), .int .u64 (s 6), .int .u64 (s 7)])] w (IntsOut w (bitsI s 512)) := by
  obtain ⟨i0, hi, hz0, hz1, hz2⟩ := info_parts infoInt
  have HS := Lib.hid hs
  clear hs
  go_enter Try.func66, Try.ntmps66
  go_wp2_with fail
  go_loopw [3, 4, 5] (fun v i _ wr => ∃ k : Nat, k ≤ 512 ∧ i = .int .i64 k ∧ w.heap.size + 1 ≤ wr.heap.size ∧ wr.ownsRow (w.heap.size + 1) 3 1 v (bitsI s k).length ((bitsI s k).map (Value.int .i64)) ∧ Hid (wr.heap[w.heap.size]? = some (.cells #[.int .u64 (s 0), .int .u64 (s 1), .int .u64 (s 2), .int .u64 (s 3), .int .u64 (s 4), .int .u64 (s 5), .int .u64 (s 6), .int .u64 (s 7)] 42) ∧ Below w.heap.size w wr)) (fun _ i _ _ => 512 - (intOf i).toNat)
  case atStart =>
    refine ⟨0, by omega, rfl, by simp, World.ownsRow_nil _ _ _ _, ⟨?_, (Below.refl _ _).alloc (Nat.le_refl _) _⟩⟩
    show (w.heap.push _)[w.heap.size]? = _
    simp
  case round =>
    obtain ⟨k, hk, rfl, hsz, hown, HH⟩ := hrel
    have hlen := bitsI_len s k
    by_cases hlt : k < 512
    · have HB : Hid (∀ w, Calls Try.prog 65 #[(.agg #[.int .u64 (s 0), .int .u64 (s 1), .int .u64 (s 2), .int .u64 (s 3), .int .u64 (s 4), .int .u64 (s 5), .int .u64 (s 6), .int .u64 (s 7)]), .int .i64 k] w fun e w' => e = .returned (.bool (bitB s k)) ∧ Below w.heap.size w w') := fun w => refBit_any s HS.out k hlt w
      have HN := Lib.hid (bitsI_succ s k)
      obtain ⟨c0, c1, c2, c3, c4, c5, c6, c7, fz⟩ := blk_facts HH.out.1
      have HO := Lib.hid hown
      clear hown
      generalize bitB s k = x at *
      go_wp2_with fail
      refine (HB.out _).mono ?_; rintro e w1 ⟨rfl, hb1⟩
      have hz3 := hb1.size
      have hown := own_below HO.out hb1
      have HH1 : Hid (w1.heap[w.heap.size]? = some (.cells #[.int .u64 (s 0), .int .u64 (s 1), .int .u64 (s 2), .int .u64 (s 3), .int .u64 (s 4), .int .u64 (s 5), .int .u64 (s 6), .int .u64 (s 7)] 42) ∧ Below w.heap.size w w1) := ⟨(hb1.block _ (by omega)).trans HH.out.1, HH.out.2.trans (hb1.mono (by omega))⟩
      clear hb1 c0 c1 c2 c3 c4 c5 c6 c7 fz HH HO
      cases x
      · have HO := Lib.hid hown
        clear hown
        go_wp2_with fail
        go_roundw
        case rel =>
          have hN := HN.out
          simp at hN
          exact ⟨k + 1, by omega, by go_num, by omega, by rw [hN]; exact HO.out, HH1.out⟩
        case measure => simp [intOf]; omega
      · go_wp2_with (at_builtin; refine wpList_append_own _ rfl (.tmp 14) (.tmp 16) 22 rfl (w.heap.size + 1) 3 i0 (.int .i64 0) 1 8 Try.underlying22 hi hz0 hz1 hz2 rfl (by decide) _ _ _ rfl (hown.alloc _) ⟨w1.heap.size, 0, none⟩ 1 1 [.int .i64 k] rfl rfl ?c1 ?c2 ?c3 ?c4 ?c5 ?_)
        case c1 => exact cell_one_new _ _ _
        case c2 => intro u hu; simp at hu; subst hu; rfl
        case c3 => unfold maxLen; omega
        case c4 => omega
        case c5 => simp; omega
        · intro v' w2 hown' hgrow _
          have hbel' : Below (w.heap.size + 1) w1 w2 := ((Below.refl _ _).alloc (by omega) _).grown hgrow (by simp; omega) (fun j hj => (hown.lt j hj).1)
          have hN := HN.out
          simp at hN
          have HO : Hid (w2.ownsRow (w.heap.size + 1) 3 1 v' (bitsI s (k + 1)).length ((bitsI s (k + 1)).map (Value.int .i64))) := by show World.ownsRow _ _ _ _ _ _ _; rw [hN]; simpa using hown'
          have HB2 := Lib.hid hbel'
          have hz4 := hbel'.size
          clear hown' hown hgrow hN hbel'
          go_wp2_with fail
          go_roundw
          case rel => exact ⟨k + 1, by omega, by go_num, by omega, HO.out, ⟨(HB2.out.block _ (by omega)).trans HH1.out.1, HH1.out.2.trans (HB2.out.mono (by omega))⟩⟩
          case measure => simp [intOf]; omega
    · obtain rfl : k = 512 := by omega
      have HO := Lib.hid hown
      clear hown
      go_wp2_with fail
      go_ret
      exact ⟨_, rfl, ownsRow_mono HO.out (by omega), HH.out.2⟩
end Go.Proofs.Ytecbnialcnplkaa
