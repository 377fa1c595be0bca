/- Objects: boxes, what a call made; a store, whatever; Pick; answers. -/
import Derived.Test.YtphnhkoklnladaaM3
import Derived.Test.YtphnhkoklnladaaS3b
import Derived.Test.YtphnhkoklnladaaC3c
import Derived.Test.YtphnhkoklnladaaC3d
import Derived.Test.YtphnhkoklnladaaC3g
import Derived.Test.YtphnhkoklnladaaC4
namespace Go.Proofs.Ytphnhkoklnladaa
open Go.RowKit
set_option linter.unusedVariables false
/-- An answer. -/
def ansV (k e v : Int) (b : Bool) : Value := .agg #[.int .i64 k, .int .i64 e, .int .i64 v, .bool b]
theorem four_cells {w : World} {p : Nat} {a b c d : Value} {T : TypeId} (h : w.heap[p]? = some (.cells #[a, b, c, d] T)) :
    w.cell? ⟨p, 0, none⟩ = some a ∧ w.cell? ⟨p, 1, none⟩ = some b ∧ w.cell? ⟨p, 2, none⟩ = some c ∧ w.cell? ⟨p, 3, none⟩ = some d ∧ ∀ o, w.frozen? ⟨p, o, none⟩ = false :=
  ⟨by simp [World.cell?, h], by simp [World.cell?, h], by simp [World.cell?, h], by simp [World.cell?, h], fun o => by simp [World.frozen?, h]⟩
theorem AtW.box {w0 wr : World} {O : HP} (g : Good O) (h : AtW w0 O wr) (cs : Array Value) (T : TypeId) : AtW w0 (Star O (BlkH wr.heap.size cs T)) (wr.alloc (.cells cs T)) :=
  h.new g ⟨fun b => b = wr.heap.size, ⟨heapAlloc _ _, fun _ => Iff.rfl⟩, (Below.refl _ _).alloc (Nat.le_refl _) _, fun b h => by omega⟩
theorem AtW.has {w0 wr : World} {O : HP} (h : AtW w0 O wr) : Has O wr := by
  obtain ⟨F, h, _⟩ := h
  exact ⟨F, h⟩
theorem AtW.fst {w0 wr : World} {A B : HP} (h : AtW w0 (Star A B) wr) : AtW w0 A wr := by
  obtain ⟨F, ⟨FA, FB, ha, hb, hF, hd⟩, h2, h3⟩ := h
  exact ⟨FA, ha, h2, fun b hb => h3 b ((hF b).2 (.inl hb))⟩
theorem AtW.up {w0 w1 wr : World} {O : HP} (hb : Below w0.heap.size w0 w1) (h : AtW w1 O wr) : AtW w0 O wr := by
  obtain ⟨F, h1, h2, h3⟩ := h
  have z := hb.size
  exact ⟨F, h1, hb.trans (h2.mono z), fun b hb => Nat.le_trans z (h3 b hb)⟩
theorem Star.swap {A B C : HP} {w : World} {F : Nat → Prop} (h : Star (Star A B) C w F) : Star (Star A C) B w F := by
  obtain ⟨FAB, FC, ⟨FA, FB, ha, hb, h1, h2⟩, hc, h3, h4⟩ := h
  refine ⟨fun b => FA b ∨ FC b, FB, ⟨FA, FC, ha, hc, fun _ => Iff.rfl, fun b k1 k2 => h4 b ((h1 b).2 (.inl k1)) k2⟩, hb, fun b => ?_, fun b k1 k2 => ?_⟩
  · rw [h3 b, h1 b, or_assoc, or_assoc, or_comm (a := FB b)]
  · rcases k1 with k1 | k1
    · exact h2 b k1 k2
    · exact h4 b ((h1 b).2 (.inr k2)) k1
theorem Star.assoc8 {A B C D : HP} {w : World} {F : Nat → Prop} (h : Star (Star (Star A B) C) D w F) : Star (Star A B) (Star C D) w F := by
  obtain ⟨F1, FD, ⟨FAB, FC, hab, hc, h1, h2⟩, hd, h3, h4⟩ := h
  refine ⟨FAB, fun b => FC b ∨ FD b, hab, ⟨FC, FD, hc, hd, fun _ => Iff.rfl, fun b hb => h4 b ((h1 b).2 (.inr hb))⟩, fun b => ?_, fun b hb h => ?_⟩
  · rw [h3 b, h1 b, or_assoc]
  · rcases h with h | h
    · exact h2 b hb h
    · exact h4 b ((h1 b).2 (.inl hb)) h
theorem Has.mid8 {A B C D : HP} {w : World} (h : Has (Star (Star A B) (Star C D)) w) : Has (Star B D) w := by
  obtain ⟨F, F1, F2, ⟨FA, FB, ha, hb, h1, h2⟩, ⟨FC, FD, hc, hd, h3, h4⟩, h5, h6⟩ := h
  exact ⟨fun b => FB b ∨ FD b, FB, FD, hb, hd, fun _ => Iff.rfl, fun b k1 k2 => h6 b ((h1 b).2 (.inr k1)) ((h3 b).2 (.inr k2))⟩
theorem LstH.new8 {w : World} (cs : Array Value) (f : Value → Array Value) (T E : TypeId) (hf : f (.slice none 0 0) = cs) : AtW w (LstH w.heap.size f T E []) (w.alloc (.cells cs T)) :=
  ⟨fun b => b = w.heap.size, ⟨.slice none 0 0, by rw [hf]; exact heapAlloc _ _, World.ownsRow_nil _ _ _ _, by simp [Value.ownBlock], fun b => by simp [Value.ownBlock]⟩, (Below.refl _ _).alloc (Nat.le_refl _) _, fun b h => by omega⟩
/-- The accesses behind a store. -/
def putL (ring cells : Nat) (l : List Acc) (th k i j v : Int) : List Acc := if isA ring cells k i j then l ++ [stAcc th k i j v] else l
theorem putL_len (ring cells : Nat) (l : List Acc) (th k i j v : Int) : (putL ring cells l th k i j v).length ≤ l.length + 1 := by
  unfold putL; split <;> simp
theorem okW_put {ring cells : Nat} {l : List Acc} (h : OkW l) (th k i j v : Int) (hv : I64 v) : OkW (putL ring cells l th k i j v) := by
  unfold putL; split
  · exact okW_st h th k i j v hv
  · exact h
theorem store_any (p ring cells : Nat) (l : List Acc) (hlen : l.length ≤ 100000000000) (th k i j v : Int) :
    Lifts Try.prog 8 #[.pointer (some ⟨p, 0, none⟩), .int .i64 th, .agg #[.int .i64 k, .int .i64 i, .int .i64 j], .int .i64 v] (MemH p ring cells l) (MemH p ring cells (putL ring cells l th k i j v)) (.returned (.int .i64 (if isA ring cells k i j then 0 else 1))) := by
  unfold putL
  by_cases h : isA ring cells k i j
  · rw [if_pos h, if_pos h]; exact store_in p ring cells l hlen th k i j v h
  · rw [if_neg h, if_neg h]; exact store_out p ring cells l th k i j v h
theorem rstore_any (r ring cells : Nat) (l : List Acc) (hlen : l.length ≤ 100000000000) (th k i j v : Int) :
    Lifts Try.prog 14 #[.pointer (some ⟨r, 0, none⟩), .int .i64 th, .agg #[.int .i64 k, .int .i64 i, .int .i64 j], .int .i64 v] (RMemH r ring cells l) (RMemH r ring cells (putL ring cells l th k i j v)) (.returned (.int .i64 (if isA ring cells k i j then 0 else 1))) := by
  unfold putL
  by_cases h : isA ring cells k i j
  · rw [if_pos h, if_pos h]; exact rstore_in r ring cells l hlen th k i j v h
  · rw [if_neg h, if_neg h]; exact rstore_out r ring cells l th k i j v h
end Go.Proofs.Ytphnhkoklnladaa
