/- Layer 5: contracts of the reference's Slots, Clear, New, SameInts. -/
import Derived.Test.YtekmdekcncgkfaaC5d
namespace Go.Proofs.Ytekmdekcncgkfaa
open Go.RowKit
set_option linter.unusedVariables false
theorem repl_succ (k : Nat) (v : Value) : List.replicate (k + 1) v = List.replicate k v ++ [v] := List.replicate_succ'
theorem chg_of_step {S : Nat → Prop} {w wr w2 : World} (h : Chg S w wr) (hb : Below w.heap.size wr w2) : Chg S w w2 :=
  h.trans (T := fun k => w.heap.size ≤ k) ⟨hb.os, hb.tape, hb.output, hb.size, fun k hk hn => hb.block k (by omega)⟩ (fun _ h => h) (fun i hi e => by omega)
/-- The reference's Clear is through. -/
def RefClr (w : World) (p m : Nat) (e : Ending) (w' : World) : Prop :=
  e = .returned (.tuple #[]) ∧ ∃ F', RefObj w' p (newT m) F' ∧ Chg (fun b => b = p) w w' ∧ ∀ b, F' b → b = p ∨ w.heap.size ≤ b
set_option maxHeartbeats 1000000 in
theorem refClear_any (m : Nat) (h1 : 1 ≤ m) (h2 : m ≤ 24) (p : Nat) (l0 s0 : Value) (w : World) (hp : w.heap[p]? = some (.cells #[.int .i64 m, l0, s0] 75)) (hl : ∃ a n c, l0 = .slice a n c) (hs : ∃ a n c, s0 = .slice a n c) :
    Calls Try.prog 37 #[.pointer (some ⟨p, 0, none⟩)] w (RefClr w p m) := by
  obtain ⟨i0, hi, hI0, hI1, hI2⟩ := info_parts infoInt5
  obtain ⟨la, ln, lc, rfl⟩ := hl
  obtain ⟨sa, sn, sc, rfl⟩ := hs
  have hc0 : w.cell? ⟨p, 0, none⟩ = some (.int .i64 m) := by simp [World.cell?, hp]
  have hc1 : w.cell? ⟨p, 1, none⟩ = some (.slice la ln lc) := by simp [World.cell?, hp]
  have hc2 : w.cell? ⟨p, 2, none⟩ = some (.slice sa sn sc) := by simp [World.cell?, hp]
  have hfz : ∀ o, w.frozen? ⟨p, o, none⟩ = false := fun o => by simp [World.frozen?, hp]
  have hlt := heap_lt hp
  have HS : Hid (∀ w, Calls Try.prog 46 #[.int .i64 m] w fun e w' => e = .returned (.tuple #[.int .i64 (numT m), .int .i64 ((64 - widT m : Nat) : Int)]) ∧ w = w') := refSize_any m h1 h2
  have HP := Lib.hid hp
  have hn := numT_pos m
  have HN2 : Hid (newT m = ⟨m, List.replicate (numT m) (-1), []⟩) := rfl
  generalize hN : numT m = N at *
  have HNN := Lib.hid hN
  clear hp hN
  go_enter Try.func37, Try.ntmps37
  go_wp2_with fail
  refine (HS.out _).mono ?_; rintro e w' ⟨rfl, rfl⟩
  go_wp2_with fail
  go_loopw [4] (fun i wr => ∃ (k : Nat) (v : Value), k ≤ N ∧ i = .int .i64 k ∧ w.heap.size ≤ wr.heap.size ∧ wr.ownsRow w.heap.size 3 1 v k (List.replicate k (.int .i64 (-1))) ∧ Hid (wr.heap[p]? = some (.cells #[.int .i64 m, .slice none 0 0, v] 75) ∧ Chg (fun b => b = p) w wr)) (fun i _ => N - (intOf i).toNat)
  case atStart =>
    refine ⟨0, .slice none 0 0, by omega, rfl, by simp [World.setCell], World.ownsRow_nil _ _ _ _, ?_, ?_⟩
    · have q1 : (w.setCell ⟨p, 1, none⟩ (.slice none 0 0)).heap[p]? = some (.cells #[.int .i64 m, .slice none 0 0, .slice sa sn sc] 75) := (heapSet_eq _ _ _ _ _ _ _ HP.out).trans (by simp)
      exact (heapSet_eq _ _ _ _ _ _ _ q1).trans (by simp)
    · exact ((Chg.refl (fun b => b = p) w).set ⟨p, 1, none⟩ _ (.inr rfl)).set ⟨p, 2, none⟩ _ (.inr rfl)
  case round =>
    obtain ⟨k, v, hk, rfl, hsz, hown, HH⟩ := hrel
    by_cases hlt2 : k < N
    · obtain ⟨a, c, rfl⟩ := ownAt_form hown
      have hd2 : wr.cell? ⟨p, 2, none⟩ = some (.slice a k c) := by simp [World.cell?, HH.out.1]
      go_wp2_with (at_builtin; refine wpList_append_own_at _ rfl (.tmp 28) (.tmp 29) 63 rfl w.heap.size 3 i0 (.int .i64 0) 1 8 Try.underlying63 hi hI0 hI1 hI2 rfl (by decide) _ _ _ rfl (hown.alloc _) ⟨wr.heap.size, 0, none⟩ 1 1 [.int .i64 (-1)] rfl rfl ?c1 ?c2 ?c3 ?c4 ?c5 ?_)
      case c1 => exact cell_one_new _ _ _
      case c2 => intro u hu; simp at hu; subst hu; rfl
      case c3 => unfold maxLen; omega
      case c4 => omega
      case c5 => simp; omega
      · intro v' w2 hown' hgrow _ _
        obtain ⟨a', c', rfl⟩ := ownAt_form hown'
        have hb : Below w.heap.size wr w2 := ((Below.refl _ _).alloc hsz _).grown hgrow (by simp; omega) (fun j hj => (hown.lt j hj).1)
        have HO : Hid (w2.ownsRow w.heap.size 3 1 (.slice a' (k + 1) c') (k + 1) (List.replicate (k + 1) (.int .i64 (-1)))) := by
          show World.ownsRow _ _ _ _ _ _ _
          rw [repl_succ]
          exact hown'
        have hz2 := hb.size
        have HP2 : Hid (w2.heap[p]? = some (.cells #[.int .i64 m, .slice none 0 0, .slice a k c] 75)) := (hb.block p hlt).trans HH.out.1
        have HC2 := Lib.hid (chg_of_step HH.out.2 hb)
        have hd3 : w2.cell? ⟨p, 2, none⟩ = some (.slice a k c) := by simp [World.cell?, HP2.out]
        have hf3 : ∀ o, w2.frozen? ⟨p, o, none⟩ = false := fun o => by simp [World.frozen?, HP2.out]
        clear hown' hgrow hown hb hd2
        go_wp2_with fail
        go_roundw
        case rel => exact ⟨k + 1, _, by omega, by go_num, by simp [World.setCell]; omega, own_chg HO.out (Chg.setCell _ _ _) (fun b hb e => by have := (HO.out.lt b hb).1; simp at e; omega), (heapSet_eq _ _ _ _ _ _ _ HP2.out).trans (by simp), HC2.out.set ⟨p, 2, none⟩ _ (.inr rfl)⟩
        case measure => simp [intOf]; omega
    · obtain rfl : k = N := by omega
      have HO := Lib.hid hown
      clear hown
      go_wp2_with fail
      refine bodyPost_end (results_none rfl _ _ _) rfl ?_
      refine ⟨rfl, Foot p (.slice none 0 0) v, ⟨.slice none 0 0, v, ⟨HH.out.1, ?_, World.ownsRow_nil _ _ _ _, ?_, by simp [Value.ownBlock], by simp [Value.ownBlock]⟩, fun b => Iff.rfl⟩, HH.out.2, ?_⟩
      · have h := own_base (B' := 0) HO.out (fun _ _ => Nat.zero_le _)
        rw [HN2.out]
        show World.ownsRow _ _ _ _ _ (numT m) ((List.replicate k (-1)).map (Value.int .i64))
        rw [HNN.out, List.map_replicate]
        exact h
      · intro e
        have := (HO.out.lt p e).1
        omega
      · rintro b (rfl | e | e)
        · exact .inl rfl
        · simp [Value.ownBlock] at e
        · exact .inr (HO.out.lt b e).1
/-- The reference's New has answered. -/
def RefNew (w : World) (m : Nat) (e : Ending) (w' : World) : Prop :=
  ∃ p F, e = .returned (.tuple #[.pointer (some ⟨p, 0, none⟩), .int .i64 0]) ∧ RefObj w' p (newT m) F ∧ Below w.heap.size w w' ∧ ∀ b, F b → w.heap.size ≤ b
theorem refNew_any (m : Nat) (h1 : 1 ≤ m) (h2 : m ≤ 24) (w : World) : Calls Try.prog 25 #[.int .i64 m] w (RefNew w m) := by
  go_enter Try.func25, Try.ntmps25
  go_wp2_with fail
  refine (refClear_any m h1 h2 w.heap.size (.slice none 0 0) (.slice none 0 0) _ (heapAlloc _ _) ⟨_, _, _, rfl⟩ ⟨_, _, _, rfl⟩).mono ?_
  rintro e w1 ⟨rfl, F, hR, hC, hF⟩
  go_wp2_with fail
  go_ret2
  refine ⟨w.heap.size, F, rfl, hR, ((Below.refl _ _).alloc (Nat.le_refl _) _).trans (hC.below (fun i e => by omega) (by simp)), fun b hb => ?_⟩
  rcases hF b hb with rfl | h
  · omega
  · simp at h; omega
theorem refNew_bad (m : Int) (h : m < 1 ∨ 24 < m) (w : World) : Calls Try.prog 25 #[.int .i64 m] w fun e w' => e = .returned (.tuple #[.pointer none, .int .i64 1]) ∧ w = w' := by
  rcases h with h | h
  · go_enter Try.func25, Try.ntmps25
    go_wp2
    go_ret2
    exact ⟨rfl, rfl⟩
  · have h2 : ¬ m < 1 := by omega
    go_enter Try.func25, Try.ntmps25
    go_wp2
    go_ret2
    exact ⟨rfl, rfl⟩
end Go.Proofs.Ytekmdekcncgkfaa
