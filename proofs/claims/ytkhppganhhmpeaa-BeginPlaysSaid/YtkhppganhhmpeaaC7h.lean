/- Layer 7: the law's accesses and starts. -/
import Derived.Test.YtkhppganhhmpeaaC3i
import Derived.Test.YtkhppganhhmpeaaC7g
namespace Go.Proofs.Ytkhppganhhmpeaa
open Go.RowKit
set_option linter.unusedVariables false
set_option maxHeartbeats 1000000 in
theorem accs_any (v u : Value) (l : List Acc) (hlen : l.length ≤ 3000000000000) (w : World) (hx : w.ownsRow 0 94 8 v l.length (accCells l)) (hy : w.ownsRow 0 94 8 u l.length (accCells l)) :
    Calls Try.prog 22 #[v, u] w fun e w' => e = .returned (.bool true) ∧ Below w.heap.size w w' := by
  obtain ⟨a, ca, rfl⟩ := ownAt_form hx
  obtain ⟨b, cb, rfl⟩ := ownAt_form hy
  have HX := Lib.hid hx
  have HY := Lib.hid hy
  obtain ⟨n, hn⟩ : ∃ n, l.length = n := ⟨_, rfl⟩
  have HN := Lib.hid hn
  rw [hn] at hlen
  rw [hn]
  clear hx hy hn
  go_enter Try.func22, Try.ntmps22
  go_wp2_with fail
  go_loopw [5] (fun i wr => ∃ k : Nat, k ≤ n ∧ i = .int .i64 k ∧ Hid (Below w.heap.size w wr)) (fun i _ => n - (intOf i).toNat)
  case atStart => exact ⟨0, by omega, rfl, Below.refl _ _⟩
  case round =>
    obtain ⟨k, hk, rfl, HB⟩ := hrel
    by_cases hlt : k < n
    · obtain ⟨⟨th, kd, ak, ai, aj, old, val, yes⟩, hxk⟩ : ∃ x, l[k]? = some x := ⟨_, List.getElem?_eq_getElem (by rw [HN.out]; exact hlt)⟩
      obtain ⟨g, c, he, c0, c1, c2, c3, c4, c5, c6, c7⟩ := rmem_acc (own_calm HX.out HB.out) hxk
      rw [HN.out] at he
      obtain ⟨rfl, rfl⟩ : a = some ⟨g, 0, none⟩ ∧ ca = c := by simp at he; exact ⟨he.1, he.2⟩
      obtain ⟨g2, c', he2, d0, d1, d2, d3, d4, d5, d6, d7⟩ := rmem_acc (own_calm HY.out HB.out) hxk
      rw [HN.out] at he2
      obtain ⟨rfl, rfl⟩ : b = some ⟨g2, 0, none⟩ ∧ cb = c' := by simp at he2; exact ⟨he2.1, he2.2⟩
      have hE := eqAcc th kd ak ai aj old val yes
      clear he he2 hxk
      go_wp2_with fail
      go_quiet (fail)
      go_wp2_with fail
      go_roundw
      case rel => exact ⟨k + 1, by omega, by go_num, below_drewN HB.out _⟩
      case measure => simp [intOf]; omega
    · obtain rfl : k = n := by omega
      go_wp2_with fail
      go_ret
      exact ⟨rfl, HB.out⟩
/-- Both machines. -/
abbrev TwoB (x y size : Nat) (st seen sk : Int) (L : List Int) : HP := Star (BegH x size st seen sk) (RBegH y size L)
theorem starts_any (x y size : Nat) (hs1 : 1 ≤ size) (hs2 : size ≤ 16) (st seen sk : Int) (L : List Int) (hL : ∀ x ∈ L, I64 x) (hlen : L.length ≤ 900) (hr : BRel size st seen sk L) :
    Looks Try.prog 21 #[.pointer (some ⟨x, 0, none⟩), .pointer (some ⟨y, 0, none⟩)] (TwoB x y size st seen sk L) (.returned (.bool true)) := by
  rintro w F hO
  have HG := Lib.hid ((BlkH.good x (begC size st seen sk) 87).star (LstH.good y (fun lv => #[.int .i64 size, lv]) 60 2 L))
  have HO := Lib.hid hO
  have hp := hr.plan
  by_cases h2 : st = 2
  · subst h2
    rw [if_pos rfl] at hp
    have HA := Lib.hid (Looks.left (B := RBegH y size L) (begStart_yes x size seen sk))
    have HB := Lib.hid (Looks.right (A := BegH x size 2 seen sk) (rbegStart_any y size hs1 hs2 L hL (by omega) true sk seen (0, 0, 0) hp))
    rw [if_pos rfl, if_pos rfl] at HB
    clear hO hp hr
    go_enter Try.func21, Try.ntmps21
    go_wp2_with fail
    refine (HA.out w F HO.out).mono ?_
    rintro e w1 ⟨rfl, h⟩
    have H1 := Lib.hid h
    clear h
    go_wp2_with fail
    refine (HB.out w1 F (HG.out.calm HO.out H1.out)).mono ?_
    rintro e w2 ⟨rfl, h⟩
    have H2 : Hid (Below w.heap.size w w2) := H1.out.trans (h.mono H1.out.size)
    clear h
    go_wp2_with fail
    go_ret
    exact ⟨rfl, H2.out⟩
  · rw [if_neg h2] at hp
    have HA := Lib.hid (Looks.left (B := RBegH y size L) (begStart_no x size st seen sk h2))
    have HB := Lib.hid (Looks.right (A := BegH x size st seen sk) (rbegStart_any y size hs1 hs2 L hL (by omega) false 0 0 (addrB size st sk) hp))
    clear hO hp hr
    go_enter Try.func21, Try.ntmps21
    go_wp2_with fail
    refine (HA.out w F HO.out).mono ?_
    rintro e w1 ⟨rfl, h⟩
    have H1 := Lib.hid h
    clear h
    go_wp2_with fail
    refine (HB.out w1 F (HG.out.calm HO.out H1.out)).mono ?_
    rintro e w2 ⟨rfl, h⟩
    have H2 : Hid (Below w.heap.size w w2) := H1.out.trans (h.mono H1.out.size)
    clear h
    go_wp2_with fail
    go_ret
    exact ⟨rfl, H2.out⟩
end Go.Proofs.Ytkhppganhhmpeaa
