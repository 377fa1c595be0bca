/- Layer 5: contracts of the program's New, Clear, Len, find. -/
import Derived.Test.YtekmdekcncgkfaaC5f
namespace Go.Proofs.Ytekmdekcncgkfaa
open Go.RowKit
set_option linter.unusedVariables false
/-- The program's Clear is through. -/
def TabClr (w : World) (p m : Nat) (S : Nat → Prop) (e : Ending) (w' : World) : Prop :=
  e = .returned (.tuple #[]) ∧ ∃ F', TabObj w' p (newT m) F' ∧ Chg S w w' ∧ ∀ b, F' b → S b
set_option maxHeartbeats 1000000 in
theorem clear_any (m : Nat) (p : Nat) (l0 : Value) (sl : List Int) (sv : Value) (w : World) (hp : w.heap[p]? = some (.cells #[.int .i64 m, sv, l0, .int .u64 ((64 - widT m : Nat) : Int)] 71)) (hl : ∃ a n c, l0 = .slice a n c)
    (hs : w.ownsRow 0 3 1 sv (numT m) (sl.map (Value.int .i64))) (hps : sv.ownBlock ≠ some p) :
    Calls Try.prog 23 #[.pointer (some ⟨p, 0, none⟩)] w (TabClr w p m (fun b => b = p ∨ sv.ownBlock = some b)) := by
  obtain ⟨la, ln, lc, rfl⟩ := hl
  have hn := numT_pos m
  have hlen : sl.length = numT m := by have := hs.1; simpa using this
  generalize hN : numT m = N at *
  have HNN := Lib.hid hN
  obtain ⟨gs, cs, rfl, _, hgs, _, hfS, hsetS⟩ := own_parts hs (by omega)
  have hpg : ¬ (p = gs) := fun e => hps (by rw [e]; rfl)
  have hgp : ¬ (gs = p) := fun e => hpg e.symm
  have hc1 : w.cell? ⟨p, 1, none⟩ = some (.slice (some ⟨gs, 0, none⟩) N cs) := by simp [World.cell?, hp]
  have hc2 : w.cell? ⟨p, 2, none⟩ = some (.slice la ln lc) := by simp [World.cell?, hp]
  have hfz : ∀ o, w.frozen? ⟨p, o, none⟩ = false := fun o => by simp [World.frozen?, hp]
  have hlt := heap_lt hp
  have HP := Lib.hid hp
  have HS := Lib.hid hs
  clear hp hs hps hsetS hN hlen
  go_enter Try.func23, Try.ntmps23
  go_wp2_with fail
  go_loopw [2, 13] (fun _ i wr => ∃ k : Nat, k ≤ N ∧ i = .int .i64 k ∧ w.heap.size ≤ wr.heap.size ∧ Hid (wr.heap[p]? = some (.cells #[.int .i64 m, .slice (some ⟨gs, 0, none⟩) N cs, .slice none 0 0, .int .u64 ((64 - widT m : Nat) : Int)] 71) ∧ (∃ xs : List Value, wr.ownsRow 0 3 1 (.slice (some ⟨gs, 0, none⟩) N cs) N xs ∧ xs.take k = List.replicate k (.int .i64 (-1))) ∧ Chg (fun b => b = p ∨ (Value.slice (some ⟨gs, 0, none⟩) N cs).ownBlock = some b) w wr)) (fun _ i _ => N - (intOf i).toNat)
  case atStart =>
    refine ⟨0, by omega, rfl, by simp [World.setCell], ?_, ⟨_, own_chg HS.out (Chg.setCell _ _ _) (fun b hb e => ?_), rfl⟩, (Chg.refl _ w).set ⟨p, 2, none⟩ _ (.inr (.inl rfl))⟩
    · exact (heapSet_eq _ _ _ _ _ _ _ HP.out).trans (by simp)
    · simp [Value.ownBlock] at hb e; omega
  case round =>
    obtain ⟨k, hk, rfl, hsz, HH⟩ := hrel
    by_cases hlt2 : k < N
    · have hd1 : wr.cell? ⟨p, 1, none⟩ = some (.slice (some ⟨gs, 0, none⟩) N cs) := by simp [World.cell?, HH.out.1]
      obtain ⟨_, ⟨xs, hx, htk⟩, _⟩ := HH.out
      obtain ⟨g1, c1, he, _, hg1, hcell, hf, hset⟩ := own_parts hx (by omega)
      obtain ⟨e1, e2⟩ := slice_inj he
      obtain rfl : gs = g1 := by simpa using e1
      subst e2
      have hlx : xs.length = N := by have := hx.1; omega
      obtain ⟨u, hu⟩ : ∃ u, xs[k]? = some u := ⟨_, List.getElem?_eq_getElem (by omega)⟩
      have hck : wr.cell? ⟨gs, k, none⟩ = some u := (hcell k (by omega)).trans hu
      have HS2 := Lib.hid (hset k (.int .i64 (-1)) (by omega))
      have HT : Hid ((xs.set k (.int .i64 (-1))).take (k + 1) = List.replicate (k + 1) (.int .i64 (-1))) := by
        show _ = _
        rw [List.take_add_one, List.getElem?_set, if_pos rfl, if_pos (by omega), List.take_set, htk, repl_succ]
        congr 1
        apply List.set_eq_of_length_le
        simp
      clear hcell hset hx he htk hlx e1 hu
      go_wp2_with fail
      go_roundw
      case rel => exact ⟨k + 1, by omega, by go_num, by simp [World.setCell]; omega, (heapSet_ne _ _ _ _ hpg).trans HH.out.1, ⟨_, HS2.out, HT.out⟩, HH.out.2.2.set ⟨gs, k, none⟩ _ (.inr (.inr rfl))⟩
      case measure => simp [intOf]; omega
    · obtain rfl : k = N := by omega
      go_wp2_with fail
      refine bodyPost_end (results_none rfl _ _ _) rfl ?_
      obtain ⟨hP, ⟨xs, hx, htk⟩, hC⟩ := HH.out
      have hlx : xs.length = k := by have := hx.1; omega
      rw [List.take_of_length_le (by omega)] at htk
      subst htk
      refine ⟨rfl, Foot p (.slice none 0 0) (.slice (some ⟨gs, 0, none⟩) k cs), ⟨.slice none 0 0, .slice (some ⟨gs, 0, none⟩) k cs, ⟨hP, ?_, World.ownsRow_nil _ _ _ _, ?_, by simp [Value.ownBlock], by simp [Value.ownBlock]⟩, fun b => Iff.rfl⟩, hC, ?_⟩
      · show World.ownsRow _ _ _ _ _ (numT m) ((List.replicate (numT m) (-1)).map (Value.int .i64))
        rw [List.map_replicate, HNN.out]
        exact hx
      · intro e; simp [Value.ownBlock] at e; omega
      · rintro b (rfl | e | e)
        · exact .inl rfl
        · simp [Value.ownBlock] at e
        · exact .inr e
end Go.Proofs.Ytekmdekcncgkfaa
