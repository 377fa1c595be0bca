/- Layer 7: a store and a step, whatever; Pick. -/
import Derived.Test.YtkhppganhhmpeaaC7b
namespace Go.Proofs.Ytkhppganhhmpeaa
open Go.RowKit
set_option linter.unusedVariables false
/-- The accesses behind a store. -/
def putL (ring cells : Nat) (l : List Acc) (th k i j v : Int) : List Acc := if isA ring cells k i j then l ++ [stAcc th k i j v] else l
theorem putL_len (ring cells : Nat) (l : List Acc) (th k i j v : Int) : (putL ring cells l th k i j v).length ≤ l.length + 1 := by
  unfold putL; split <;> simp
theorem store_any (p ring cells : Nat) (l : List Acc) (hlen : l.length ≤ 100000000000) (th k i j v : Int) :
    Lifts Try.prog 12 #[.pointer (some ⟨p, 0, none⟩), .int .i64 th, .agg #[.int .i64 k, .int .i64 i, .int .i64 j], .int .i64 v] (MemH p ring cells l) (MemH p ring cells (putL ring cells l th k i j v)) (.returned (.int .i64 (if isA ring cells k i j then 0 else 1))) := by
  unfold putL
  by_cases h : isA ring cells k i j
  · rw [if_pos h, if_pos h]; exact store_in p ring cells l hlen th k i j v h
  · rw [if_neg h, if_neg h]; exact store_out p ring cells l th k i j v h
theorem rstore_any (r ring cells : Nat) (l : List Acc) (hlen : l.length ≤ 100000000000) (th k i j v : Int) :
    Lifts Try.prog 19 #[.pointer (some ⟨r, 0, none⟩), .int .i64 th, .agg #[.int .i64 k, .int .i64 i, .int .i64 j], .int .i64 v] (RMemH r ring cells l) (RMemH r ring cells (putL ring cells l th k i j v)) (.returned (.int .i64 (if isA ring cells k i j then 0 else 1))) := by
  unfold putL
  by_cases h : isA ring cells k i j
  · rw [if_pos h, if_pos h]; exact rstore_in r ring cells l hlen th k i j v h
  · rw [if_neg h, if_neg h]; exact rstore_out r ring cells l th k i j v h
/-- The number below n. -/
def pickZ (x n : Int) : Int := x % n
theorem pick_t (x n : Int) (h1 : 1 ≤ n) (h2 : n ≤ 1000000) : (x.tmod n < 0 → wrap64 (x.tmod n + n) = pickZ x n) ∧ (¬ x.tmod n < 0 → x.tmod n = pickZ x n) := by
  have hb1 := Int.emod_nonneg x (show n ≠ 0 by omega)
  have hb2 := Int.emod_lt_of_pos x (show 0 < n by omega)
  have ht : x.tmod n = x % n - (if 0 ≤ x ∨ n ∣ x then 0 else n.natAbs) := Int.tmod_eq_emod
  unfold pickZ
  constructor
  · intro h
    have e : x.tmod n + n = x % n := by split at ht <;> omega
    rw [e, wrap64_id _ (by omega) (by omega)]
  · intro h
    split at ht <;> omega
theorem pick_any (x n : Int) (h1 : 1 ≤ n) (h2 : n ≤ 1000000) (w : World) : Calls Try.prog 9 #[.int .i64 x, .int .i64 n] w fun e w' => e = .returned (.int .i64 (pickZ x n)) ∧ w = w' := by
  obtain ⟨ha, hb⟩ := pick_t x n h1 h2
  by_cases hneg : x.tmod n < 0
  · have e := Lib.hid (ha hneg)
    clear ha hb
    go_enter Try.func9, Try.ntmps9
    go_wp2
    go_ret
    exact ⟨ret_i64 e.out, rfl⟩
  · have e := Lib.hid (hb hneg)
    clear ha hb
    go_enter Try.func9, Try.ntmps9
    go_wp2
    go_ret
    exact ⟨ret_i64 e.out, rfl⟩
theorem pickZ_range (x n : Int) (h1 : 1 ≤ n) : 0 ≤ pickZ x n ∧ pickZ x n < n := ⟨Int.emod_nonneg x (by omega), Int.emod_lt_of_pos x (by omega)⟩
/-- The machine's numbers. -/
def BRng (st seen sk : Int) : Prop := st = 0 ∨ (st = 1 ∧ 1 ≤ sk ∧ sk ≤ seen ∧ seen ≤ 9223372036854775807)
theorem begStep_go (p x ring cells : Nat) (l : List Acc) (hlen : l.length ≤ 100000000000) (st seen sk th : Int) (hr1 : 1 ≤ ring) (hr2 : ring ≤ 16) (hb : BRng st seen sk) (a b c : Int) (ha : addrB ring st sk = (a, b, c)) (v : Int) (hv : wordOf l a b c = v) (st' seen' sk' kd : Int) (hs : stepB ring st seen sk v = (st', seen', sk', kd)) :
    Lifts Try.prog 13 #[.pointer (some ⟨x, 0, none⟩), .pointer (some ⟨p, 0, none⟩), .int .i64 th] (BStep p x ring cells l ring st seen sk) (BStep p x ring cells (l ++ [ldAcc th a b c v]) ring st' seen' sk') (.returned (ansV kd 0 0 true)) := by
  rcases hb with rfl | ⟨rfl, h1, h2, h3⟩
  · unfold addrB at ha
    rw [if_pos rfl] at ha
    obtain ⟨rfl, rfl, rfl⟩ : 1 = a ∧ 0 = b ∧ 0 = c := by simpa using ha
    unfold stepB at hs
    rw [if_pos rfl] at hs
    subst hv
    by_cases hv : wordOf l 1 0 0 < 1
    · rw [if_pos hv] at hs
      obtain ⟨rfl, rfl, rfl, rfl⟩ : 2 = st' ∧ wordOf l 1 0 0 = seen' ∧ 0 = sk' ∧ 3 = kd := by simpa using hs
      exact begStep_new0 p x ring cells l hlen seen sk th hv
    · rw [if_neg hv] at hs
      obtain ⟨rfl, rfl, rfl, rfl⟩ : 1 = st' ∧ wordOf l 1 0 0 = seen' ∧ wordOf l 1 0 0 = sk' ∧ 2 = kd := by simpa using hs
      exact begStep_new1 p x ring cells l hlen seen sk th hv
  · unfold addrB at ha
    rw [if_neg (by decide)] at ha
    obtain ⟨rfl, rfl, rfl⟩ : 2 = a ∧ slotZ sk ring = b ∧ 0 = c := by simpa using ha
    unfold stepB at hs
    rw [if_neg (by decide)] at hs
    subst hv
    by_cases ho : overB (wordOf l 2 (slotZ sk ring) 0) sk = true
    · rw [if_pos ho] at hs
      obtain ⟨rfl, rfl, rfl, rfl⟩ : 2 = st' ∧ seen = seen' ∧ sk = sk' ∧ 3 = kd := by simpa using hs
      exact begStep_over p x ring cells l hlen _ _ th hr1 hr2 h1 h2 h3 ho
    · rw [if_neg ho] at hs
      have ho' : overB (wordOf l 2 (slotZ sk ring) 0) sk = false := by simpa using ho
      by_cases hc : sk - 1 < 1
      · rw [if_pos (.inl hc)] at hs
        obtain ⟨rfl, rfl, rfl, rfl⟩ : 2 = st' ∧ seen = seen' ∧ sk - 1 = sk' ∧ 3 = kd := by simpa using hs
        exact begStep_last p x ring cells l hlen _ _ th hr1 hr2 h1 h2 h3 ho' hc
      · by_cases hq : sk - 1 = seen - ring
        · rw [if_pos (.inr hq)] at hs
          obtain ⟨rfl, rfl, rfl, rfl⟩ : 2 = st' ∧ seen = seen' ∧ sk - 1 = sk' ∧ 3 = kd := by simpa using hs
          exact begStep_lap p x ring cells l hlen _ _ th hr1 hr2 h1 h2 h3 ho' hc hq
        · rw [if_neg (by omega)] at hs
          obtain ⟨rfl, rfl, rfl, rfl⟩ : 1 = st' ∧ seen = seen' ∧ sk - 1 = sk' ∧ 2 = kd := by simpa using hs
          exact begStep_on p x ring cells l hlen _ _ th hr1 hr2 h1 h2 h3 ho' hc hq
end Go.Proofs.Ytkhppganhhmpeaa
