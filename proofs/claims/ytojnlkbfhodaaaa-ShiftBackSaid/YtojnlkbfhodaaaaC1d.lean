/- Contracts of layer 1, fourth part: Take; the reference's least, Low, Lay, Take. -/
import Derived.Test.YtojnlkbfhodaaaaC1c
namespace Go.Proofs.Ytojnlkbfhodaaaa
open Go.RowKit
set_option linter.unusedVariables false
set_option maxHeartbeats 1000000 in
theorem take_any (s : ByteArray) (n : Int) (hn : n = 1 ∨ n = 2 ∨ n = 4 ∨ n = 8) (hs : n ≤ s.size) (hm : s.size ≤ 9223372036854775807) (w : World) :
    Calls Try.prog 43 #[.string s, .int .i64 n] w fun e w' => e = .returned (.tuple #[.int .i64 (takeZ (strNums s n.toNat)), .int .i64 0]) ∧ w = w' := by
  have hn1 : 1 ≤ n := by omega
  have hn2 : n ≤ 8 := by omega
  have hlen : n.toNat ≤ s.size := by omega
  have HL := Lib.hid hlen
  have hd : decide ((s.size : Int) < n) = false := by simp; omega
  have HN := Lib.hid hn
  clear hn hlen
  go_enter Try.func43, Try.ntmps43
  go_wp2_with (go_at_call 51; refine (sized_yes n HN.out _).mono ?_; rintro e w' ⟨rfl, rfl⟩)
  go_loop [6, 7] (fun u i => ∃ q a : Int, -1 ≤ q ∧ q < n ∧ i = .int .i64 q ∧ u = .int .u64 a ∧ 0 ≤ a ∧ (0 ≤ q → a < 72057594037927936) ∧ Hid (a = bytesVal ((strNums s n.toNat).drop (q + 1).toNat))) (fun _ i => (intOf i + 1).toNat)
  case atStart =>
    refine ⟨n - 1, 0, by omega, by omega, rfl, rfl, by omega, by omega, ?_⟩
    show _ = _
    rw [List.drop_of_length_le (by rw [strNums_length _ _ HL.out]; omega)]; rfl
  case round =>
    obtain ⟨q, a, hq0, hq1, rfl, rfl, ha0, ha1, HA⟩ := hrel
    by_cases hq : 0 ≤ q
    · obtain ⟨m, rfl⟩ := Int.eq_ofNat_of_zero_le hq
      have ha2 := ha1 hq
      have hms : m < s.size := by omega
      have hb0 : (0 : Int) ≤ (s[m].toNat : Int) := by omega
      have hb1 : (s[m].toNat : Int) < 256 := by have := s[m].toNat_lt; omega
      have HD := Lib.hid (drop_val s n.toNat m HL.out (by omega))
      clear ha1
      go_wp2
      go_round
      case rel =>
        have hor := or_bytes a (s[m].toNat : Int) ha0 ha2 hb0 hb1
        have hr := drop_range s n.toNat m HL.out
        have hmm : ((m : Int) - 1 + 1).toNat = m := by omega
        have hm1 : ((m : Int) + 1).toNat = m + 1 := by omega
        have hA := HA.out
        rw [hm1] at hA
        have hv : a * 256 + 0 = 256 * a := by omega
        refine ⟨m - 1, (s[m].toNat : Int) + 256 * a, by omega, by omega, rfl, ?_, by omega, ?_, ?_⟩
        · rw [hor]
        · intro hm0
          have h8 : bytesVal ((strNums s n.toNat).drop m) < 256 ^ 7 := Int.lt_of_lt_of_le hr.2 (pow256_le (by omega))
          rw [HD.out, ← hA] at h8
          simpa using h8
        · show _ = _
          rw [hmm, HD.out, hA]
      case measure => simp [intOf]
    · obtain rfl : q = -1 := by omega
      go_wp2
      go_ret2
      have hA := HA.out
      simp only [Int.reduceNeg, Int.add_left_neg, Int.toNat_zero, List.drop_zero] at hA
      have hr := drop_range s n.toNat 0 HL.out
      rw [List.drop_zero, ← hA, Nat.sub_zero] at hr
      refine ⟨?_, rfl⟩
      have ht := take_end a n HN.out hr.1 hr.2
      unfold takeZ
      rw [strNums_length _ _ HL.out, ← hA, ← ht]
      rfl
end Go.Proofs.Ytojnlkbfhodaaaa
