/- The ring that grows: Shares. -/
import Derived.Test.YtojkeahffabifaaCGb
import Derived.Test.YtojkeahffabifaaSGb
import Derived.Test.YtojkeahffabifaaC2l
namespace Go.Proofs.Ytojkeahffabifaa
open Go.RowKit
set_option linter.unusedVariables false
theorem ent_lits {w : World} {p : Nat} {v : Value} {e : Ent} {T : TypeId} (h : w.heap[p]? = some (.cells (entCell (v, e)).toArray T)) :
    w.cell? ⟨p, 0, none⟩ = some v ∧ w.cell? ⟨p, 1, none⟩ = some (.int .u64 (e.sg 0)) ∧ w.cell? ⟨p, 2, none⟩ = some (.int .u64 (e.sg 1)) ∧ w.cell? ⟨p, 3, none⟩ = some (.int .u64 (e.sg 2)) ∧ w.cell? ⟨p, 4, none⟩ = some (.int .u64 (e.sg 3)) ∧ w.cell? ⟨p, 5, none⟩ = some (.int .u64 (e.sg 4)) ∧ w.cell? ⟨p, 6, none⟩ = some (.int .u64 (e.sg 5)) ∧ w.cell? ⟨p, 7, none⟩ = some (.int .u64 (e.sg 6)) ∧ w.cell? ⟨p, 8, none⟩ = some (.int .u64 (e.sg 7)) ∧ w.cell? ⟨p, 9, none⟩ = some (.int .i64 e.bk) ∧ ∀ o, w.frozen? ⟨p, o, none⟩ = false := by
  refine ⟨?_, ?_, ?_, ?_, ?_, ?_, ?_, ?_, ?_, ?_, fun o => by simp [World.frozen?, h]⟩ <;> simp [World.cell?, h, entCell]
noncomputable def sharesB (es : List Ent) (fr to : Int) (rs : Nat → Int) : Bool := @decide (sharesG es fr to rs) (Classical.propDecidable _)
theorem sharesB_true {es : List Ent} {fr to : Int} {rs : Nat → Int} (h : sharesG es fr to rs) : sharesB es fr to rs = true := @decide_eq_true _ (Classical.propDecidable _) h
theorem sharesB_false {es : List Ent} {fr to : Int} {rs : Nat → Int} (h : ¬ sharesG es fr to rs) : sharesB es fr to rs = false := @decide_eq_false _ (Classical.propDecidable _) h
theorem meets_iff (a b : Nat → Int) : (!sigEq (andS a b) noS) = true ↔ ∃ j : Nat, j < 8 ∧ bits .and .u64 (a j) (b j) ≠ 0 := by
  rw [Bool.not_eq_true', ← Bool.not_eq_true, sigEq_iff]
  constructor
  · intro h
    apply Classical.byContradiction
    intro hn
    exact h fun i hi => Classical.byContradiction fun hx => hn ⟨i, hi, hx⟩
  · rintro ⟨j, h1, h2⟩ h
    exact h2 (h j h1)
set_option maxHeartbeats 2000000 in
set_option maxRecDepth 100000 in
theorem shares_any (x size cells : Nat) (l : List Acc) (g : GS) (hi : GInv size cells g l) (fr to : Int) (rs : Nat → Int) (hrs : Wds rs) :
    Looks Try.prog 13 #[.pointer (some ⟨x, 0, none⟩), .int .i64 fr, .int .i64 to, (.agg #[.int .u64 (rs 0), .int .u64 (rs 1), .int .u64 (rs 2), .int .u64 (rs 3), .int .u64 (rs 4), .int .u64 (rs 5), .int .u64 (rs 6), .int .u64 (rs 7)])] (GrowH x size g) (.returned (.bool (sharesB g.es fr to rs))) := by
  have hbig := hi.big
  have HI := Lib.hid hi
  have HRS := Lib.hid hrs
  intro w F hO
  have HO := Lib.hid hO
  clear hO hi hrs
  go_enter Try.func13, Try.ntmps13
  go_wp2_with fail
  go_loopw [9] (fun i wr => ∃ k : Nat, k ≤ g.es.length ∧ i = .int .i64 k ∧ Hid (wr.heap[w.heap.size]? = some (.cells #[.int .u64 (rs 0), .int .u64 (rs 1), .int .u64 (rs 2), .int .u64 (rs 3), .int .u64 (rs 4), .int .u64 (rs 5), .int .u64 (rs 6), .int .u64 (rs 7)] 42) ∧ Below w.heap.size w wr ∧ ¬ sharesG (g.es.take k) fr to rs)) (fun i _ => g.es.length - (intOf i).toNat)
  case atStart =>
    refine ⟨0, by omega, rfl, heapAlloc _ _, (Below.refl _ _).alloc (Nat.le_refl _) _, ?_⟩
    rintro ⟨i, e, h, _⟩
    simp at h
  case round =>
    obtain ⟨k, hk, rfl, HH⟩ := hrel
    have hG := (GrowH.good x size g).calm HO.out HH.out.2.1
    by_cases hlt : k < g.es.length
    · obtain ⟨e, he⟩ : ∃ e, g.es[k]? = some e := ⟨_, List.getElem?_eq_getElem hlt⟩
      obtain ⟨gb, lc, va, vc, hR, hE, gz, _, _⟩ := hG.at he
      obtain ⟨p0, p1, p2, p3, fz⟩ := four_cells hR.hp
      obtain ⟨e0, e1, e2, e3, e4, e5, e6, e7, e8, e9⟩ := hE
      obtain ⟨b0, b1, b2, b3, b4, b5, b6, b7, bz⟩ := blk_facts HH.out.1
      have hwe : Wds e.sg := by rw [(HI.out.ent k e he).1]; exact sigW_wds _
      have HM := Lib.hid (refMeets_any e.sg rs hwe HRS.out)
      have HMI := Lib.hid (meets_iff e.sg rs)
      have HTK : Hid (¬ sharesG (g.es.take (k + 1)) fr to rs ↔ ¬ (fr < (k : Int) + 1 ∧ (k : Int) + 1 ≤ to ∧ ∃ j : Nat, j < 8 ∧ bits .and .u64 (e.sg j) (rs j) ≠ 0)) := by
        constructor
        · rintro h ⟨h1, h2, h3⟩
          exact h ⟨k, e, by rw [List.getElem?_take_of_lt (by omega)]; exact he, h1, h2, h3⟩
        · rintro h ⟨i, e', q1, q2, q3, q4⟩
          have hik : i < k + 1 := by have := (List.getElem?_eq_some_iff.1 q1).1; simp at this; omega
          rw [List.getElem?_take_of_lt hik] at q1
          by_cases hie : i = k
          · subst hie
            rw [he] at q1
            obtain rfl := Option.some.inj q1
            exact h ⟨q2, q3, q4⟩
          · exact HH.out.2.2 ⟨i, e', by rw [List.getElem?_take_of_lt (by omega)]; exact q1, q2, q3, q4⟩
      have HYES : Hid ((fr < (k : Int) + 1 ∧ (k : Int) + 1 ≤ to ∧ ∃ j : Nat, j < 8 ∧ bits .and .u64 (e.sg j) (rs j) ≠ 0) → sharesB g.es fr to rs = true) := fun ⟨h1, h2, h3⟩ => sharesB_true ⟨k, e, he, h1, h2, h3⟩
      clear hG hR hwe
      generalize (!sigEq (andS e.sg rs) noS) = b at *
      go_wp2_with fail
      go_still_tail 9, (by kernel_rfl)
      change wpList _ _ _ _ _ wr.drew
      go_wp2_with fail
      refine (HM.out _).mono ?_; rintro e' w2 ⟨rfl, hb⟩
      have HH2 : Hid (w2.heap[w.heap.size]? = some (.cells #[.int .u64 (rs 0), .int .u64 (rs 1), .int .u64 (rs 2), .int .u64 (rs 3), .int .u64 (rs 4), .int .u64 (rs 5), .int .u64 (rs 6), .int .u64 (rs 7)] 42) ∧ Below w.heap.size w w2) := ⟨(hb.block _ (by simpa using heap_lt HH.out.1)).trans HH.out.1, HH.out.2.1.drew.trans (hb.mono (by simpa using HH.out.2.1.size))⟩
      clear p0 p1 p2 p3 fz e0 e1 e2 e3 e4 e5 e6 e7 e8 e9 gz b0 b1 b2 b3 b4 b5 b6 b7 bz hb HH HM
      by_cases h1 : fr < (k : Int) + 1
      · have d1 : decide (fr < (k : Int) + 1) = true := by simpa using h1
        by_cases h2 : (k : Int) + 1 ≤ to
        · have d2 : decide ((k : Int) + 1 ≤ to) = true := by simpa using h2
          cases b
          · have hno : ¬ sharesG (g.es.take (k + 1)) fr to rs := HTK.out.2 fun h => by have := HMI.out.2 h.2.2; cases this
            have HNO := Lib.hid hno
            clear hno
            go_wp2_with fail
            go_roundw
            case rel => exact ⟨k + 1, by omega, by go_num, HH2.out.1, HH2.out.2, HNO.out⟩
            case measure => simp [intOf]; omega
          · have HY := Lib.hid (HYES.out ⟨h1, h2, HMI.out.1 rfl⟩)
            go_wp2_with fail
            go_ret
            exact ⟨ret_bool HY.out.symm, HH2.out.2⟩
        · have d2 : decide ((k : Int) + 1 ≤ to) = false := by simpa using h2
          have HNO : Hid (¬ sharesG (g.es.take (k + 1)) fr to rs) := HTK.out.2 fun h => h2 h.2.1
          go_wp2_with fail
          go_roundw
          case rel => exact ⟨k + 1, by omega, by go_num, HH2.out.1, HH2.out.2, HNO.out⟩
          case measure => simp [intOf]; omega
      · have d1 : decide (fr < (k : Int) + 1) = false := by simpa using h1
        have HNO : Hid (¬ sharesG (g.es.take (k + 1)) fr to rs) := HTK.out.2 fun h => h1 h.1
        go_wp2_with fail
        go_roundw
        case rel => exact ⟨k + 1, by omega, by go_num, HH2.out.1, HH2.out.2, HNO.out⟩
        case measure => simp [intOf]; omega
    · obtain rfl : k = g.es.length := by omega
      obtain ⟨la, lc, hR⟩ := hG.read
      obtain ⟨p0, p1, p2, p3, fz⟩ := four_cells hR.hp
      have HN : Hid (sharesB g.es fr to rs = false) := sharesB_false (by have h := HH.out.2.2; rwa [List.take_length] at h)
      clear hG hR
      go_wp2_with fail
      go_ret
      exact ⟨ret_bool HN.out.symm, HH.out.2.1⟩
end Go.Proofs.Ytojkeahffabifaa
