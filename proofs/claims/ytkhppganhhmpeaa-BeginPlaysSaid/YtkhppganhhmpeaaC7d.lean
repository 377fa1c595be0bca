/- Layer 7: the reference's Next. -/
import Derived.Test.YtkhppganhhmpeaaC7c
import Derived.Test.YtkhppganhhmpeaaM3
import Derived.Test.YtkhppganhhmpeaaS7
namespace Go.Proofs.Ytkhppganhhmpeaa
open Go.RowKit
set_option linter.unusedVariables false
/-- A plan. -/
def planV (p : Bool × Int × Int × Int × Int × Int) : Value := .agg #[.bool p.1, .int .i64 p.2.1, .int .i64 p.2.2.1, .int .i64 p.2.2.2.1, .int .i64 p.2.2.2.2.1, .int .i64 p.2.2.2.2.2]
theorem scanO_drop {n : Int} {hs : List Int} {k : Nat} {h : Int} (hx : hs[k]? = some h) : scanO n (hs.drop k) k = if overB h (n - k) then some (n - k) else scanO n (hs.drop (k + 1)) (k + 1) := by
  obtain ⟨hk, he⟩ := List.getElem?_eq_some_iff.1 hx
  rw [List.drop_eq_getElem_cons hk, he]
  rfl
theorem six_cells {w : World} {p : Nat} {a b c d e f : Value} {T : TypeId} (h : w.heap[p]? = some (.cells #[a, b, c, d, e, f] T)) :
    w.cell? ⟨p, 0, none⟩ = some a ∧ w.cell? ⟨p, 1, none⟩ = some b ∧ w.cell? ⟨p, 2, none⟩ = some c ∧ w.cell? ⟨p, 3, none⟩ = some d ∧ w.cell? ⟨p, 4, none⟩ = some e ∧ w.cell? ⟨p, 5, none⟩ = some f ∧ ∀ o, w.frozen? ⟨p, o, none⟩ = false :=
  ⟨by simp [World.cell?, h], by simp [World.cell?, h], by simp [World.cell?, h], by simp [World.cell?, h], by simp [World.cell?, h], by simp [World.cell?, h], fun o => by simp [World.frozen?, h]⟩
/-- Next has answered. -/
def NextGot (w : World) (p : Bool × Int × Int × Int × Int × Int) (e : Ending) (w' : World) : Prop := e = .returned (planV p) ∧ Below w.heap.size w w'
set_option maxHeartbeats 4000000 in
theorem next_any (size : Nat) (hs1 : 1 ≤ size) (hs2 : size ≤ 16) (lv : Value) (L : List Int) (hL : ∀ x ∈ L, I64 x) (w : World) (ho : w.ownsRow 0 2 1 lv L.length (L.map (Value.int .i64))) (hlen : L.length ≤ 1000) :
    Calls Try.prog 43 #[.int .i64 size, lv] w (NextGot w (nextP size L)) := by
  obtain ⟨a, c, rfl⟩ := ownAt_form ho
  have HO := Lib.hid ho
  have HB : Hid (Below w.heap.size w (w.alloc (.cells #[.bool false, .int .i64 0, .int .i64 0, .int .i64 0, .int .i64 0, .int .i64 0] 111))) := (Below.refl _ _).alloc (Nat.le_refl _) _
  have HO1 := Lib.hid (own_calm ho HB.out)
  clear ho
  match L, hL, hlen, HO, HO1 with
  | [], hL, hlen, HO, HO1 =>
    go_enter Try.func43, Try.ntmps43
    go_wp2_with fail
    refine bodyPost_ret (v := _) (by simp [results, Try.results43, go_sem]; rfl) rfl ?_
    exact ⟨rfl, (Below.refl _ _).alloc (Nat.le_refl _) _⟩
  | n :: hs, hL, hlen, HO, HO1 =>
    have hn := hL n (List.mem_cons_self ..)
    have HHS := Lib.hid (fun x (hx : x ∈ hs) => hL x (List.mem_cons_of_mem _ hx))
    obtain ⟨g, c', hv, c0⟩ := int_at HO.out (k := 0) (x := n) rfl
    obtain ⟨rfl, rfl⟩ : a = some ⟨g, 0, none⟩ ∧ c = c' := by simp at hv; exact ⟨hv.1, hv.2⟩
    obtain ⟨hn1, hn2⟩ := hn
    have hgl : g < w.heap.size := (HO.out.lt g rfl).2
    have hll : (n :: hs).length = hs.length + 1 := rfl
    rw [hll] at hlen
    rw [hll]
    clear hv hL HO1
    by_cases hn0 : n < 1
    · have HP : Hid (nextP size (n :: hs) = (true, 0, n, 0, 0, 0)) := by show _ = _; simp only [nextP]; rw [if_pos hn0]
      go_enter Try.func43, Try.ntmps43
      go_wp2_with fail
      refine bodyPost_ret (v := _) (by simp [results, Try.results43, go_sem]; rfl) rfl ?_
      refine ⟨by rw [HP.out]; rfl, ?_⟩
      exact (Below.refl _ _).alloc (Nat.le_refl _) _
    · have HP : Hid (nextP size (n :: hs) = match scanO n hs 0 with | some s => (true, s, n, 0, 0, 0) | none => if n - hs.length < 1 ∨ hs.length = size then (true, n - hs.length, n, 0, 0, 0) else (false, 0, 0, 2, slotZ (n - hs.length) size, 0)) := by show _ = _; simp only [nextP]; rw [if_neg hn0]; rfl
      go_enter Try.func43, Try.ntmps43
      go_wp2_with fail
      go_loop [6] (fun i => ∃ k : Nat, k ≤ hs.length ∧ i = .int .i64 ((k : Int) + 1) ∧ Hid (scanO n hs 0 = scanO n (hs.drop k) k)) (fun i => hs.length + 1 - (intOf i).toNat)
      case atStart => exact ⟨0, by omega, rfl, rfl⟩
      case round =>
        obtain ⟨k, hk, rfl, HK⟩ := hrel
        by_cases hlt : k < hs.length
        · obtain ⟨h, hx⟩ : ∃ h, hs[k]? = some h := ⟨_, List.getElem?_eq_getElem hlt⟩
          obtain ⟨g2, c2, hv, ck⟩ := int_at HO.out (k := k + 1) (x := h) hx
          obtain ⟨rfl, rfl⟩ : g = g2 ∧ c = c2 := by simp at hv; exact ⟨hv.1, hv.2⟩
          have hI := HHS.out h (List.mem_of_getElem? hx)
          have HI := Lib.hid hI
          have HS := Lib.hid (scanO_drop (n := n) hx)
          have ek : (k : Int) + 1 - 1 = k := by omega
          clear hv hx hI
          go_wp2_with fail
          refine (refOver_any h (n - k) HI.out _).mono ?_; rintro e w' ⟨rfl, rfl⟩
          cases hov : overB h (n - k) with
          | true =>
            have HE : Hid (nextP size (n :: hs) = (true, n - k, n, 0, 0, 0)) := by
              show _ = _
              rw [HP.out, HK.out, HS.out, hov]; rfl
            clear hov
            go_wp2_with fail
            refine bodyPost_ret (v := _) (by simp [results, Try.results43, go_sem]; rfl) rfl ?_
            refine ⟨by rw [HE.out]; rfl, ?_⟩
            exact (Below.refl _ _).alloc (Nat.le_refl _) _
          | false =>
            have HE : Hid (scanO n hs 0 = scanO n (hs.drop (k + 1)) (k + 1)) := by
              show _ = _
              rw [HK.out, HS.out, hov]; rfl
            clear hov
            go_wp2_with fail
            go_round
            case rel => exact ⟨k + 1, by omega, by go_num, HE.out⟩
            case measure => simp [intOf]; omega
        · obtain rfl : k = hs.length := by omega
          have HN : Hid (scanO n hs 0 = none) := by
            show _ = _
            rw [HK.out, List.drop_length]; rfl
          have HP2 : Hid (nextP size (n :: hs) = if n - hs.length < 1 ∨ hs.length = size then (true, n - hs.length, n, 0, 0, 0) else (false, 0, 0, 2, slotZ (n - hs.length) size, 0)) := by
            show _ = _
            rw [HP.out, HN.out]
          clear hlt hk HK
          have el : ((hs.length + 1 : Nat) : Int) - 1 = hs.length := by omega
          by_cases hc : n - (hs.length : Int) < 1
          · have HE : Hid (nextP size (n :: hs) = (true, n - hs.length, n, 0, 0, 0)) := by
              show _ = _
              rw [HP2.out, if_pos (.inl hc)]
            go_wp2_with fail
            refine bodyPost_ret (v := _) (by simp [results, Try.results43, go_sem]; rfl) rfl ?_
            refine ⟨by rw [HE.out]; rfl, ?_⟩
            exact (Below.refl _ _).alloc (Nat.le_refl _) _
          · by_cases hq : hs.length = size
            · have HE : Hid (nextP size (n :: hs) = (true, n - hs.length, n, 0, 0, 0)) := by
                show _ = _
                rw [HP2.out, if_pos (.inr hq)]
              subst hq
              go_wp2_with fail
              refine bodyPost_ret (v := _) (by simp [results, Try.results43, go_sem]; rfl) rfl ?_
              refine ⟨by rw [HE.out]; rfl, ?_⟩
              exact (Below.refl _ _).alloc (Nat.le_refl _) _
            · have HE : Hid (nextP size (n :: hs) = (false, 0, 0, 2, slotZ (n - hs.length) size, 0)) := by
                show _ = _
                rw [HP2.out, if_neg (by omega)]
              have e1 : ((hs.length : Int) + 1 == (size : Int) + 1) = false := by simp; omega
              have e2 : ((hs.length : Int) == (size : Int)) = false := by simp; omega
              clear hq
              go_wp2_with fail
              refine (refSlot_any _ _ _).mono ?_; rintro e w' ⟨rfl, rfl⟩
              go_wp2_with fail
              refine bodyPost_ret (v := _) (by simp [results, Try.results43, go_sem]; rfl) rfl ?_
              refine ⟨by rw [HE.out]; rfl, ?_⟩
              exact (Below.refl _ _).alloc (Nat.le_refl _) _
end Go.Proofs.Ytkhppganhhmpeaa
