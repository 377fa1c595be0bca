/- Layer 7: a store and a step, whatever; Pick. -/
import Derived.Test.YtkhppganhhmpeaaG0
import Derived.Test.YtkhppganhhmpeaaC7b
namespace Go.Proofs.Ytkhppganhhmpeaa
open Go.RowKit
set_option linter.unusedVariables false
/-- The machine's numbers. -/
def BRng (st seen sk : Int) : Prop := st = 0 ∨ (st = 1 ∧ 1 ≤ sk ∧ sk ≤ seen ∧ seen ≤ 9223372036854775807)
theorem begStep_go (p x ring cells : Nat) (l : List Acc) (hlen : l.length ≤ 3000000000000) (st seen sk th : Int) (hr1 : 1 ≤ ring) (hr2 : ring ≤ 16) (hb : BRng st seen sk) (a b c : Int) (ha : addrB ring st sk = (a, b, c)) (v : Int) (hv : wordOf l a b c = v) (st' seen' sk' kd : Int) (hs : stepB ring st seen sk v = (st', seen', sk', kd)) :
    Lifts Try.prog 13 #[.pointer (some ⟨x, 0, none⟩), .pointer (some ⟨p, 0, none⟩), .int .i64 th] (BStep p x ring cells l ring st seen sk) (BStep p x ring cells (l ++ [ldAcc th a b c v]) ring st' seen' sk') (.returned (ansV kd 0 0 true)) := by
  rcases hb with rfl | ⟨rfl, h1, h2, h3⟩
  · unfold addrB at ha
    rw [if_pos rfl] at ha
    obtain ⟨rfl, rfl, rfl⟩ : 1 = a ∧ 0 = b ∧ 0 = c := by simpa using ha
    unfold stepB at hs
    rw [if_pos rfl] at hs
    subst hv
    by_cases hv : wordOf l 1 0 0 < 1
    · rw [if_pos hv] at hs
      obtain ⟨rfl, rfl, rfl, rfl⟩ : 2 = st' ∧ wordOf l 1 0 0 = seen' ∧ 0 = sk' ∧ 3 = kd := by simpa using hs
      exact begStep_new0 p x ring cells l hlen seen sk th hv
    · rw [if_neg hv] at hs
      obtain ⟨rfl, rfl, rfl, rfl⟩ : 1 = st' ∧ wordOf l 1 0 0 = seen' ∧ wordOf l 1 0 0 = sk' ∧ 2 = kd := by simpa using hs
      exact begStep_new1 p x ring cells l hlen seen sk th hv
  · unfold addrB at ha
    rw [if_neg (by decide)] at ha
    obtain ⟨rfl, rfl, rfl⟩ : 2 = a ∧ slotZ sk ring = b ∧ 0 = c := by simpa using ha
    unfold stepB at hs
    rw [if_neg (by decide)] at hs
    subst hv
    by_cases ho : overB (wordOf l 2 (slotZ sk ring) 0) sk = true
    · rw [if_pos ho] at hs
      obtain ⟨rfl, rfl, rfl, rfl⟩ : 2 = st' ∧ seen = seen' ∧ sk = sk' ∧ 3 = kd := by simpa using hs
      exact begStep_over p x ring cells l hlen _ _ th hr1 hr2 h1 h2 h3 ho
    · rw [if_neg ho] at hs
      have ho' : overB (wordOf l 2 (slotZ sk ring) 0) sk = false := by simpa using ho
      by_cases hc : sk - 1 < 1
      · rw [if_pos (.inl hc)] at hs
        obtain ⟨rfl, rfl, rfl, rfl⟩ : 2 = st' ∧ seen = seen' ∧ sk - 1 = sk' ∧ 3 = kd := by simpa using hs
        exact begStep_last p x ring cells l hlen _ _ th hr1 hr2 h1 h2 h3 ho' hc
      · by_cases hq : sk - 1 = seen - ring
        · rw [if_pos (.inr hq)] at hs
          obtain ⟨rfl, rfl, rfl, rfl⟩ : 2 = st' ∧ seen = seen' ∧ sk - 1 = sk' ∧ 3 = kd := by simpa using hs
          exact begStep_lap p x ring cells l hlen _ _ th hr1 hr2 h1 h2 h3 ho' hc hq
        · rw [if_neg (by omega)] at hs
          obtain ⟨rfl, rfl, rfl, rfl⟩ : 1 = st' ∧ seen = seen' ∧ sk - 1 = sk' ∧ 2 = kd := by simpa using hs
          exact begStep_on p x ring cells l hlen _ _ th hr1 hr2 h1 h2 h3 ho' hc hq
end Go.Proofs.Ytkhppganhhmpeaa
