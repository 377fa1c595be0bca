/- Objects: boxes, what a call made; a store, whatever; Pick; answers. -/
import Derived.Test.YtojkeahffabifaaM3
import Derived.Test.YtojkeahffabifaaS3b
import Derived.Test.YtojkeahffabifaaC3c
import Derived.Test.YtojkeahffabifaaC3d
import Derived.Test.YtojkeahffabifaaC3g
import Derived.Test.YtojkeahffabifaaC4
namespace Go.Proofs.Ytojkeahffabifaa
open Go.RowKit
set_option linter.unusedVariables false
/-- An answer. -/
def ansV (k e v : Int) (b : Bool) : Value := .agg #[.int .i64 k, .int .i64 e, .int .i64 v, .bool b]
theorem four_cells {w : World} {p : Nat} {a b c d : Value} {T : TypeId} (h : w.heap[p]? = some (.cells #[a, b, c, d] T)) :
    w.cell? ⟨p, 0, none⟩ = some a ∧ w.cell? ⟨p, 1, none⟩ = some b ∧ w.cell? ⟨p, 2, none⟩ = some c ∧ w.cell? ⟨p, 3, none⟩ = some d ∧ ∀ o, w.frozen? ⟨p, o, none⟩ = false :=
  ⟨by simp [World.cell?, h], by simp [World.cell?, h], by simp [World.cell?, h], by simp [World.cell?, h], fun o => by simp [World.frozen?, h]⟩
theorem AtW.box {w0 wr : World} {O : HP} (g : Good O) (h : AtW w0 O wr) (cs : Array Value) (T : TypeId) : AtW w0 (Star O (BlkH wr.heap.size cs T)) (wr.alloc (.cells cs T)) :=
  h.new g ⟨fun b => b = wr.heap.size, ⟨heapAlloc _ _, fun _ => Iff.rfl⟩, (Below.refl _ _).alloc (Nat.le_refl _) _, fun b h => by omega⟩
theorem AtW.has {w0 wr : World} {O : HP} (h : AtW w0 O wr) : Has O wr := by
  obtain ⟨F, h, _⟩ := h
  exact ⟨F, h⟩
theorem AtW.fst {w0 wr : World} {A B : HP} (h : AtW w0 (Star A B) wr) : AtW w0 A wr := by
  obtain ⟨F, ⟨FA, FB, ha, hb, hF, hd⟩, h2, h3⟩ := h
  exact ⟨FA, ha, h2, fun b hb => h3 b ((hF b).2 (.inl hb))⟩
theorem AtW.up {w0 w1 wr : World} {O : HP} (hb : Below w0.heap.size w0 w1) (h : AtW w1 O wr) : AtW w0 O wr := by
  obtain ⟨F, h1, h2, h3⟩ := h
  have z := hb.size
  exact ⟨F, h1, hb.trans (h2.mono z), fun b hb => Nat.le_trans z (h3 b hb)⟩
theorem Star.swap {A B C : HP} {w : World} {F : Nat → Prop} (h : Star (Star A B) C w F) : Star (Star A C) B w F := by
  obtain ⟨FAB, FC, ⟨FA, FB, ha, hb, h1, h2⟩, hc, h3, h4⟩ := h
  refine ⟨fun b => FA b ∨ FC b, FB, ⟨FA, FC, ha, hc, fun _ => Iff.rfl, fun b k1 k2 => h4 b ((h1 b).2 (.inl k1)) k2⟩, hb, fun b => ?_, fun b k1 k2 => ?_⟩
  · rw [h3 b, h1 b, or_assoc, or_assoc, or_comm (a := FB b)]
  · rcases k1 with k1 | k1
    · exact h2 b k1 k2
    · exact h4 b ((h1 b).2 (.inr k2)) k1
theorem Star.assoc8 {A B C D : HP} {w : World} {F : Nat → Prop} (h : Star (Star (Star A B) C) D w F) : Star (Star A B) (Star C D) w F := by
  obtain ⟨F1, FD, ⟨FAB, FC, hab, hc, h1, h2⟩, hd, h3, h4⟩ := h
  refine ⟨FAB, fun b => FC b ∨ FD b, hab, ⟨FC, FD, hc, hd, fun _ => Iff.rfl, fun b hb => h4 b ((h1 b).2 (.inr hb))⟩, fun b => ?_, fun b hb h => ?_⟩
  · rw [h3 b, h1 b, or_assoc]
  · rcases h with h | h
    · exact h2 b hb h
    · exact h4 b ((h1 b).2 (.inl hb)) h
theorem Has.mid8 {A B C D : HP} {w : World} (h : Has (Star (Star A B) (Star C D)) w) : Has (Star B D) w := by
  obtain ⟨F, F1, F2, ⟨FA, FB, ha, hb, h1, h2⟩, ⟨FC, FD, hc, hd, h3, h4⟩, h5, h6⟩ := h
  exact ⟨fun b => FB b ∨ FD b, FB, FD, hb, hd, fun _ => Iff.rfl, fun b k1 k2 => h6 b ((h1 b).2 (.inr k1)) ((h3 b).2 (.inr k2))⟩
theorem LstH.new8 {w : World} (cs : Array Value) (f : Value → Array Value) (T E : TypeId) (hf : f (.slice none 0 0) = cs) : AtW w (LstH w.heap.size f T E []) (w.alloc (.cells cs T)) :=
  ⟨fun b => b = w.heap.size, ⟨.slice none 0 0, by rw [hf]; exact heapAlloc _ _, World.ownsRow_nil _ _ _ _, by simp [Value.ownBlock], fun b => by simp [Value.ownBlock]⟩, (Below.refl _ _).alloc (Nat.le_refl _) _, fun b h => by omega⟩
/-- The accesses behind a store. -/
def putL (ring cells : Nat) (l : List Acc) (th k i j v : Int) : List Acc := if isA ring cells k i j then l ++ [stAcc th k i j v] else l
theorem putL_len (ring cells : Nat) (l : List Acc) (th k i j v : Int) : (putL ring cells l th k i j v).length ≤ l.length + 1 := by
  unfold putL; split <;> simp
theorem okW_put {ring cells : Nat} {l : List Acc} (h : OkW l) (th k i j v : Int) (hv : I64 v) : OkW (putL ring cells l th k i j v) := by
  unfold putL; split
  · exact okW_st h th k i j v hv
  · exact h
theorem store_any (p ring cells : Nat) (l : List Acc) (hlen : l.length ≤ 3000000000000) (th k i j v : Int) :
    Lifts Try.prog 20 #[.pointer (some ⟨p, 0, none⟩), .int .i64 th, .agg #[.int .i64 k, .int .i64 i, .int .i64 j], .int .i64 v] (MemH p ring cells l) (MemH p ring cells (putL ring cells l th k i j v)) (.returned (.int .i64 (if isA ring cells k i j then 0 else 1))) := by
  unfold putL
  by_cases h : isA ring cells k i j
  · rw [if_pos h, if_pos h]; exact store_in p ring cells l hlen th k i j v h
  · rw [if_neg h, if_neg h]; exact store_out p ring cells l th k i j v h
theorem rstore_any (r ring cells : Nat) (l : List Acc) (hlen : l.length ≤ 3000000000000) (th k i j v : Int) :
    Lifts Try.prog 21 #[.pointer (some ⟨r, 0, none⟩), .int .i64 th, .agg #[.int .i64 k, .int .i64 i, .int .i64 j], .int .i64 v] (RMemH r ring cells l) (RMemH r ring cells (putL ring cells l th k i j v)) (.returned (.int .i64 (if isA ring cells k i j then 0 else 1))) := by
  unfold putL
  by_cases h : isA ring cells k i j
  · rw [if_pos h, if_pos h]; exact rstore_in r ring cells l hlen th k i j v h
  · rw [if_neg h, if_neg h]; exact rstore_out r ring cells l th k i j v h
/-- The number below n. -/
def pickZ (x n : Int) : Int := x % n
theorem pick_t (x n : Int) (h1 : 1 ≤ n) (h2 : n ≤ 1000000) : (x.tmod n < 0 → wrap64 (x.tmod n + n) = pickZ x n) ∧ (¬ x.tmod n < 0 → x.tmod n = pickZ x n) := by
  have hb1 := Int.emod_nonneg x (show n ≠ 0 by omega)
  have hb2 := Int.emod_lt_of_pos x (show 0 < n by omega)
  have ht : x.tmod n = x % n - (if 0 ≤ x ∨ n ∣ x then 0 else n.natAbs) := Int.tmod_eq_emod
  unfold pickZ
  constructor
  · intro h
    have e : x.tmod n + n = x % n := by split at ht <;> omega
    rw [e, wrap64_id _ (by omega) (by omega)]
  · intro h
    split at ht <;> omega
theorem pick_any (x n : Int) (h1 : 1 ≤ n) (h2 : n ≤ 1000000) (w : World) : Calls Try.prog 7 #[.int .i64 x, .int .i64 n] w fun e w' => e = .returned (.int .i64 (pickZ x n)) ∧ w = w' := by
  obtain ⟨ha, hb⟩ := pick_t x n h1 h2
  by_cases hneg : x.tmod n < 0
  · have e := Lib.hid (ha hneg)
    clear ha hb
    go_enter Try.func7, Try.ntmps7
    go_wp2
    go_ret
    exact ⟨ret_i64 e.out, rfl⟩
  · have e := Lib.hid (hb hneg)
    clear ha hb
    go_enter Try.func7, Try.ntmps7
    go_wp2
    go_ret
    exact ⟨ret_i64 e.out, rfl⟩
theorem pickZ_range (x n : Int) (h1 : 1 ≤ n) : 0 ≤ pickZ x n ∧ pickZ x n < n := ⟨Int.emod_nonneg x (by omega), Int.emod_lt_of_pos x (by omega)⟩
end Go.Proofs.Ytojkeahffabifaa
