/- Layer 3: the reference's memory as an object; Is, same, Word. -/
import Derived.Test.YtojkeahffabifaaC3b
namespace Go.Proofs.Ytojkeahffabifaa
open Go.RowKit
set_option linter.unusedVariables false
/-- The reference's memory at r, behind the accesses l. -/
def RMemH (r ring cells : Nat) (l : List Acc) : HP := fun w F =>
  ∃ lv, w.heap[r]? = some (.cells #[.int .i64 cells, .int .i64 ring, lv] 84) ∧ w.ownsRow 0 117 8 lv l.length (accCells l) ∧ lv.ownBlock ≠ some r ∧ ∀ b, F b ↔ b = r ∨ lv.ownBlock = some b
theorem RMemH.good (r ring cells : Nat) (l : List Acc) : Good (RMemH r ring cells l) where
  chg := by
    rintro w w' F S ⟨lv, h1, h2, h3, h4⟩ hc hS
    exact ⟨lv, (hc.block r (heap_lt h1) (hS r ((h4 r).2 (.inl rfl)))).trans h1, own_chg h2 hc (fun b hb => hS b ((h4 b).2 (.inr hb))), h3, h4⟩
  lt := by
    rintro w F b ⟨lv, h1, h2, h3, h4⟩ h
    rcases (h4 b).1 h with rfl | h
    · exact heap_lt h1
    · exact (h2.lt b h).2
theorem three_cells {w : World} {p : Nat} {a b c : Value} {T : TypeId} (h : w.heap[p]? = some (.cells #[a, b, c] T)) :
    w.cell? ⟨p, 0, none⟩ = some a ∧ w.cell? ⟨p, 1, none⟩ = some b ∧ w.cell? ⟨p, 2, none⟩ = some c ∧ ∀ o, w.frozen? ⟨p, o, none⟩ = false :=
  ⟨by simp [World.cell?, h], by simp [World.cell?, h], by simp [World.cell?, h], fun o => by simp [World.frozen?, h]⟩
theorem beq_no {a b : Int} (h : a ≠ b) : (a == b) = false := by simp [h]
theorem beq_yes (a : Int) : (a == a) = true := by simp
set_option maxHeartbeats 1000000 in
theorem same_any (a b c k i j : Int) (w : World) : Calls Try.prog 81 #[.agg #[.int .i64 a, .int .i64 b, .int .i64 c], .agg #[.int .i64 k, .int .i64 i, .int .i64 j]] w fun e w' => e = .returned (.bool (a == k && b == i && c == j)) ∧ Below w.heap.size w w' := by
  have HB : Hid (∀ x y, Below w.heap.size w ((w.alloc x).alloc y)) := fun x y => ((Below.refl _ _).alloc (Nat.le_refl _) _).alloc (by simp) _
  by_cases h1 : a = k
  · subst h1
    have e1 := beq_yes a
    by_cases h2 : b = i
    · subst h2
      have e2 := beq_yes b
      go_enter Try.func81, Try.ntmps81
      go_wp2_with fail
      go_ret
      exact ⟨by rw [e1, e2]; rfl, HB.out _ _⟩
    · have e2 := beq_no h2
      go_enter Try.func81, Try.ntmps81
      go_wp2_with fail
      go_ret
      exact ⟨by rw [e1, e2]; rfl, HB.out _ _⟩
  · have e1 := beq_no h1
    go_enter Try.func81, Try.ntmps81
    go_wp2_with fail
    go_ret
    exact ⟨by rw [e1]; rfl, HB.out _ _⟩
theorem rmem_acc {w : World} {lv : Value} {l : List Acc} (h : w.ownsRow 0 117 8 lv l.length (accCells l)) {m : Nat} {x : Acc} (hx : l[m]? = some x) :
    ∃ g c, lv = .slice (some ⟨g, 0, none⟩) l.length c ∧ w.cell? ⟨g, m * 8, none⟩ = some (.int .i64 x.th) ∧ w.cell? ⟨g, m * 8 + 1, none⟩ = some (.int .i64 x.kd) ∧ w.cell? ⟨g, m * 8 + 2, none⟩ = some (.int .i64 x.ak) ∧ w.cell? ⟨g, m * 8 + 3, none⟩ = some (.int .i64 x.ai) ∧ w.cell? ⟨g, m * 8 + 4, none⟩ = some (.int .i64 x.aj) ∧ w.cell? ⟨g, m * 8 + 5, none⟩ = some (.int .i64 x.old) ∧ w.cell? ⟨g, m * 8 + 6, none⟩ = some (.int .i64 x.val) ∧ w.cell? ⟨g, m * 8 + 7, none⟩ = some (.bool x.yes) := by
  have hm : m < l.length := (List.getElem?_eq_some_iff.1 hx).1
  obtain ⟨g, c, hv, _, _, hc, _, _⟩ := own_parts h (by omega)
  have hg := accCells_get l m x hx
  exact ⟨g, c, hv, (hc _ (by omega)).trans (hg 0 (by omega)), (hc _ (by omega)).trans (hg 1 (by omega)), (hc _ (by omega)).trans (hg 2 (by omega)), (hc _ (by omega)).trans (hg 3 (by omega)), (hc _ (by omega)).trans (hg 4 (by omega)), (hc _ (by omega)).trans (hg 5 (by omega)), (hc _ (by omega)).trans (hg 6 (by omega)), (hc _ (by omega)).trans (hg 7 (by omega))⟩
theorem wordOf_take {l : List Acc} {m : Nat} {x : Acc} (hx : l[m]? = some x) (k i j : Int) : wordOf (l.take (m + 1)) k i j = if hit x k i j then x.val else wordOf (l.take m) k i j := by
  rw [List.take_add_one, hx]
  exact wordOf_snoc _ _ _ _ _
theorem hout_next {w wr w1 : World} {l : List Acc} {k i j : Int} {m : Nat} {T : TypeId} {x : Acc} (h : wordOf l k i j = wordOf (l.take (m + 1)) k i j ∧ wr.heap[w.heap.size]? = some (.cells #[.int .i64 k, .int .i64 i, .int .i64 j] T) ∧ Below w.heap.size w wr) (hb : Below wr.heap.size wr w1)
    (ht : wordOf (l.take (m + 1)) k i j = if hit x k i j then x.val else wordOf (l.take m) k i j) (hsz : w.heap.size < wr.heap.size) :
    (hit x k i j = true → wordOf l k i j = x.val ∧ Below w.heap.size w w1) ∧ (hit x k i j = false → wordOf l k i j = wordOf (l.take m) k i j ∧ w1.heap[w.heap.size]? = some (.cells #[.int .i64 k, .int .i64 i, .int .i64 j] T) ∧ Below w.heap.size w w1) := by
  obtain ⟨h1, h2, h3⟩ := h
  have h4 : Below w.heap.size w w1 := h3.trans (hb.mono h3.size)
  exact ⟨fun e => ⟨by rw [h1, ht, if_pos e], h4⟩, fun e => ⟨by rw [h1, ht, e]; rfl, (hb.block _ hsz).trans h2, h4⟩⟩
set_option maxHeartbeats 2000000 in
theorem rword_any (r ring cells : Nat) (l : List Acc) (hlen : l.length ≤ 3000000000000) (k i j : Int) : Looks Try.prog 62 #[.pointer (some ⟨r, 0, none⟩), .agg #[.int .i64 k, .int .i64 i, .int .i64 j]] (RMemH r ring cells l) (.returned (.int .i64 (wordOf l k i j))) := by
  rintro w F ⟨lv, h1, h2, h3, h4⟩
  obtain ⟨la, lc, rfl⟩ := ownAt_form h2
  have H1 := Lib.hid h1
  have H2 := Lib.hid h2
  have hrl := heap_lt h1
  have hb0 : Below w.heap.size w (w.alloc (.cells #[.int .i64 k, .int .i64 i, .int .i64 j] 59)) := (Below.refl _ _).alloc (Nat.le_refl _) _
  obtain ⟨p0, p1, p2, fz⟩ := three_cells ((hb0.block r hrl).trans h1)
  have HB0 := Lib.hid hb0
  clear h1 h2 h3 h4 hb0
  go_enter Try.func62, Try.ntmps62
  go_wp2_with fail
  go_loopw [5] (fun ix wr => ∃ n : Nat, n ≤ l.length ∧ ix = .int .i64 ((n : Int) - 1) ∧ Hid (wordOf l k i j = wordOf (l.take n) k i j ∧ wr.heap[w.heap.size]? = some (.cells #[.int .i64 k, .int .i64 i, .int .i64 j] 59) ∧ Below w.heap.size w wr)) (fun ix _ => (intOf ix + 1).toNat)
  case atStart => exact ⟨l.length, Nat.le_refl _, rfl, by rw [List.take_length], heapAlloc _ _, HB0.out⟩
  case round =>
    obtain ⟨n, hn, rfl, HH⟩ := hrel
    have hsz : w.heap.size < wr.heap.size := heap_lt HH.out.2.1
    obtain ⟨q0, q1, q2, qz⟩ := three_cells HH.out.2.1
    obtain ⟨p0', p1', p2', fz'⟩ := three_cells ((HH.out.2.2.block r hrl).trans H1.out)
    match n, hn, HH with
    | 0, hn, HH =>
      have HW : Hid (wordOf l k i j = wInit k) := HH.out.1
      by_cases hk : k = 2
      · have e1 : (k == 2) = true := by simp [hk]
        have HK := Lib.hid hk
        clear hk
        go_wp2_with fail
        go_ret
        rw [HW.out, HK.out]
        exact ⟨rfl, HH.out.2.2⟩
      · have e1 : (k == 2) = false := by simp [hk]
        have HK := Lib.hid hk
        clear hk
        go_wp2_with fail
        go_ret
        rw [HW.out]
        unfold wInit
        rw [if_neg HK.out]
        exact ⟨rfl, HH.out.2.2⟩
    | m + 1, hn, HH =>
      obtain ⟨x, hx⟩ : ∃ x, l[m]? = some x := ⟨_, List.getElem?_eq_getElem (by omega)⟩
      obtain ⟨g, c, hv, c0, c1, c2, c3, c4, c5, c6, c7⟩ := rmem_acc (own_calm H2.out HH.out.2.2) hx
      obtain ⟨rfl, rfl⟩ : la = some ⟨g, 0, none⟩ ∧ lc = c := by simp at hv; exact ⟨hv.1, hv.2⟩
      have HT := Lib.hid (wordOf_take hx k i j)
      have hm1 : ((m + 1 : Nat) : Int) - 1 = m := by omega
      rw [hm1]
      obtain ⟨th, kd, ak, ai, aj, old, val, yes⟩ := x
      have HS := Lib.hid (same_any ak ai aj k i j)
      have HHit : Hid (hit ⟨th, kd, ak, ai, aj, old, val, yes⟩ k i j = ((ak == k && ai == i && aj == j) && (kd == 2 || (kd == 3 && yes)))) := rfl
      clear hv hx hm1
      generalize (ak == k && ai == i && aj == j) = b at *
      go_wp2_with fail
      refine (HS.out _).mono ?_; rintro e w1 ⟨rfl, hb⟩
      have HBX : Hid (w1.heap[wr.heap.size]? = some (.cells #[.int .i64 th, .int .i64 kd, .int .i64 ak, .int .i64 ai, .int .i64 aj, .int .i64 old, .int .i64 val, .bool yes] 117)) := (hb.block _ (by simp)).trans (heapAlloc wr _)
      have HBB : Hid (Below wr.heap.size wr w1) := ((Below.refl _ _).alloc (Nat.le_refl _) _).trans (hb.mono (by simp))
      have d1 : w1.cell? ⟨wr.heap.size, 1, none⟩ = some (.int .i64 kd) := by simp [World.cell?, HBX.out]
      have d6 : w1.cell? ⟨wr.heap.size, 6, none⟩ = some (.int .i64 val) := by simp [World.cell?, HBX.out]
      have d7 : w1.cell? ⟨wr.heap.size, 7, none⟩ = some (.bool yes) := by simp [World.cell?, HBX.out]
      have hout := hout_next HH.out HBB.out HT.out hsz
      have HN := Lib.hid hout
      clear hb c0 c1 c2 c3 c4 c5 c6 c7 q0 q1 q2 qz p0' p1' p2' fz' p0 p1 p2 fz HS hout
      cases b with
      | false =>
        have HF : Hid (hit ⟨th, kd, ak, ai, aj, old, val, yes⟩ k i j = false) := HHit.out
        go_wp2_with fail
        go_roundw
        case rel => exact ⟨m, by omega, by go_num, (HN.out.2 HF.out)⟩
        case measure => simp [intOf]
      | true =>
        by_cases h2 : kd = 2
        · have e2 : (kd == 2) = true := by simp [h2]
          have HF : Hid (hit ⟨th, kd, ak, ai, aj, old, val, yes⟩ k i j = true) := HHit.out.trans (by rw [e2]; rfl)
          clear h2
          go_wp2_with fail
          go_ret
          exact ⟨by rw [(HN.out.1 HF.out).1]; rfl, (HN.out.1 HF.out).2⟩
        · have e2 : (kd == 2) = false := by simp [h2]
          by_cases h3 : kd = 3
          · have e3 : (kd == 3) = true := by simp [h3]
            cases yes with
            | true =>
              have HF : Hid (hit ⟨th, kd, ak, ai, aj, old, val, true⟩ k i j = true) := HHit.out.trans (by rw [e2, e3]; rfl)
              clear h2 h3
              go_wp2_with fail
              go_ret
              exact ⟨by rw [(HN.out.1 HF.out).1]; rfl, (HN.out.1 HF.out).2⟩
            | false =>
              have HF : Hid (hit ⟨th, kd, ak, ai, aj, old, val, false⟩ k i j = false) := HHit.out.trans (by rw [e2, e3]; rfl)
              clear h2 h3
              go_wp2_with fail
              go_roundw
              case rel => exact ⟨m, by omega, by go_num, (HN.out.2 HF.out)⟩
              case measure => simp [intOf]
          · have e3 : (kd == 3) = false := by simp [h3]
            have HF : Hid (hit ⟨th, kd, ak, ai, aj, old, val, yes⟩ k i j = false) := HHit.out.trans (by rw [e2, e3]; rfl)
            clear h2 h3
            go_wp2_with fail
            go_roundw
            case rel => exact ⟨m, by omega, by go_num, (HN.out.2 HF.out)⟩
            case measure => simp [intOf]
end Go.Proofs.Ytojkeahffabifaa
