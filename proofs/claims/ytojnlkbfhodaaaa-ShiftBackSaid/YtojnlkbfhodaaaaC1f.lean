/- Contracts of layer 1, sixth part: the reference's Lay and Take, Take's refusals, Narrow. -/
import Derived.Test.YtojnlkbfhodaaaaC1e
namespace Go.Proofs.Ytojnlkbfhodaaaa
open Go.RowKit
set_option linter.unusedVariables false
set_option maxHeartbeats 1000000 in
theorem refLay_any (x n : Int) (hx : I64 x) (hn : n = 1 ∨ n = 2 ∨ n = 4 ∨ n = 8) (w : World) :
    Calls Try.prog 42 #[.int .i64 x, .int .i64 n] w fun e w' => e = .returned (.tuple #[.string (strOfNums (layL x n.toNat)), .int .i64 0]) ∧ Below w.heap.size w w' := by
  obtain ⟨i0, hi, hz0, hz1, hz2⟩ := info_parts infoU8
  have hn1 : 1 ≤ n := by omega
  have hn2 : n ≤ 8 := by omega
  have HN := Lib.hid hn
  clear hn
  go_enter Try.func42, Try.ntmps42
  go_wp2_with (go_at_call 52; refine (refSized_yes n HN.out _).mono ?_; rintro e w' ⟨rfl, rfl⟩)
  go_loopw [0, 7, 8] (fun u v i wr => ∃ (k : Nat) (a : Int), (k : Int) ≤ n ∧ i = .int .i64 k ∧ u = .int .i64 a ∧ -9223372036854775808 ≤ a ∧ a ≤ 9223372036854775807 ∧ Hid (a = x / 2 ^ (8 * k)) ∧ wr.ownsRow w.heap.size 5 1 v k ((layL x k).map (Value.int .u8)) ∧ Below w.heap.size w wr) (fun _ _ i _ => n.toNat - (intOf i).toNat)
  case atStart => exact ⟨0, x, by omega, rfl, rfl, hx.1, hx.2, by show _ = _; simp, World.ownsRow_nil _ _ _ _, Below.refl _ _⟩
  case round =>
    obtain ⟨k, a, hk, rfl, rfl, ha0, ha1, HA, hown, hbel⟩ := hrel
    have hsz := hbel.size
    by_cases hlt : (k : Int) < n
    · have hr0 : 0 ≤ a % 256 := by omega
      have hr1 : a % 256 < 256 := by omega
      go_wp2_with (first | (go_at_call 53; refine (least_8 _ _).mono ?_; rintro e w' ⟨rfl, rfl⟩) | (at_builtin; refine wpList_append_own _ rfl (.tmp 21) (.tmp 24) 57 rfl w.heap.size 5 i0 (.int .u8 0) 1 1 Try.underlying57 hi hz0 hz1 hz2 rfl (by decide) _ _ _ rfl (hown.alloc _) ⟨wr.heap.size, 0, none⟩ 1 1 [.int .u8 (a % 256)] rfl rfl ?c1 ?c2 ?c3 ?c4 ?c5 ?_))
      case c1 => exact cell_one_new _ _ _
      case c2 => intro u hu; simp at hu; subst hu; rfl
      case c3 => unfold maxLen; omega
      case c4 => omega
      case c5 => simp; omega
      · intro v' w1 hown' hgrow _
        have hbel' : Below w.heap.size w w1 := (hbel.alloc hsz _).grown hgrow (by simp; omega) (fun j hj => (hown.lt j hj).1)
        have ho : w1.ownsRow w.heap.size 5 1 v' (k + 1) ((layL x (k + 1)).map (Value.int .u8)) := by rw [layL_succ, ← HA.out]; simpa using hown'
        clear hown' hown hgrow
        go_wp2
        go_roundw
        case rel => exact ⟨k + 1, a / 256, by omega, by go_num, congrArg (Value.int .i64) ((tdiv256 _ (by omega)).trans (by omega)), by omega, by omega, by show _ = _; rw [HA.out, lay_half], ho, hbel'⟩
        case measure => simp [intOf]; omega
    · obtain rfl : n = (k : Int) := by omega
      obtain ⟨g, cap, rfl, hconv⟩ := conv_own hown (by omega)
      go_wp2
      go_ret2
      exact ⟨by simp, hbel⟩
theorem refLay_no (x n : Int) (hn : ¬ (n = 1 ∨ n = 2 ∨ n = 4 ∨ n = 8)) (w : World) :
    Calls Try.prog 42 #[.int .i64 x, .int .i64 n] w fun e w' => e = .returned (.tuple #[.string ByteArray.empty, .int .i64 1]) ∧ w = w' := by
  have HN := Lib.hid hn
  clear hn
  go_enter Try.func42, Try.ntmps42
  go_wp2_with (go_at_call 52; refine (refSized_no n HN.out _).mono ?_; rintro e w' ⟨rfl, rfl⟩)
  go_ret2
  exact ⟨rfl, rfl⟩
set_option maxHeartbeats 1000000 in
theorem refTake_any (s : ByteArray) (n : Int) (hn : n = 1 ∨ n = 2 ∨ n = 4 ∨ n = 8) (hs : n ≤ s.size) (hm : s.size ≤ 9223372036854775807) (w : World) :
    Calls Try.prog 44 #[.string s, .int .i64 n] w fun e w' => e = .returned (.tuple #[.int .i64 (takeZ (strNums s n.toNat)), .int .i64 0]) ∧ w = w' := by
  have hn2 : n ≤ 8 := by omega
  have hn1 : 1 ≤ n := by omega
  obtain ⟨d, HD, hd0, hd1, hix⟩ : ∃ d : Int, Hid (∃ h : (n - 1).toNat < s.size, d = s[(n - 1).toNat].toNat) ∧ 0 ≤ d ∧ d < 256 ∧ ∀ w, (Instr.index 9 (.string s) (.int .i64 (n - 1))).run Try.prog w = .ok (.int .u8 d) w := by
    refine ⟨s[(n - 1).toNat].toNat, ⟨by omega, rfl⟩, by omega, by have := s[(n - 1).toNat].toNat_lt; omega, fun w => ?_⟩
    rw [run_index_string w 9 s .i64 (n - 1) Try.underlying9, dif_pos (by omega)]
  have HL : Hid (n.toNat ≤ s.size) := by show _ ≤ _; omega
  have hdd : decide ((s.size : Int) < (n : Int)) = false := by simp; omega
  have HN := Lib.hid hn
  clear hn
  obtain ⟨m0, HM⟩ : ∃ m0 : Nat, Hid (n = (m0 : Int) + 1) := ⟨(n - 1).toNat, by show _ = _; omega⟩
  have HT : Hid (n.toNat = m0 + 1) := by have := HM.out; show _ = _; omega
  have HG : Hid (m0 + 1 ≤ s.size) := by have := HM.out; show _ ≤ _; omega
  have HS : Hid (d = (s[m0]'(by have := HG.out; omega)).toNat) := by
    obtain ⟨h, e⟩ := HD.out
    have : (n - 1).toNat = m0 := by have := HM.out; omega
    show _ = _
    rw [e]; simp only [this]
  clear HD
  by_cases hc : 128 ≤ d
  · have F := Lib.hid (take_neg s m0 HG.out (by rw [← HS.out]; exact hc))
    go_enter Try.func44, Try.ntmps44
    go_wp2_with (go_at_call 52; refine (refSized_yes _ HN.out _).mono ?_; rintro e w' ⟨rfl, rfl⟩)
    clear hix
    go_loop [7, 8] (fun u i => ∃ q a : Int, -1 ≤ q ∧ q < n ∧ i = .int .i64 q ∧ u = .int .i64 a ∧ (0 ≤ q → -36028797018963968 ≤ a ∧ a < 36028797018963968) ∧ Hid (a = bytesVal ((strNums s (m0 + 1)).drop (q + 1).toNat) - 256 ^ (m0 + 1 - (q + 1).toNat))) (fun _ i => (intOf i + 1).toNat)
    case atStart =>
      have hM := HM.out
      refine ⟨n - 1, -1, by omega, by omega, rfl, rfl, by omega, ?_⟩
      show _ = _
      rw [List.drop_of_length_le (by rw [strNums_length _ _ HG.out]; omega)]
      have : m0 + 1 - (n - 1 + 1).toNat = 0 := by omega
      rw [this]; rfl
    case round =>
      obtain ⟨q, a, hq0, hq1, rfl, rfl, ha1, HA⟩ := hrel
      by_cases hq : 0 ≤ q
      · obtain ⟨m, rfl⟩ := Int.eq_ofNat_of_zero_le hq
        obtain ⟨ha2, ha3⟩ := ha1 hq
        have hms : m < s.size := by omega
        have hb0 : (0 : Int) ≤ (s[m].toNat : Int) := by omega
        have hb1 : (s[m].toNat : Int) < 256 := by have := s[m].toNat_lt; omega
        have HD := Lib.hid (drop_val s (m0 + 1) m HG.out (by have := HM.out; omega))
        clear ha1
        go_wp2
        go_round
        case rel =>
          have hM := HM.out
          have hr := drop_range s (m0 + 1) m HG.out
          have hmm : ((m : Int) - 1 + 1).toNat = m := by omega
          have hm1 : ((m : Int) + 1).toNat = m + 1 := by omega
          have hA := HA.out
          rw [hm1] at hA
          have hp : (256 : Int) ^ (m0 + 1 - m) = 256 ^ (m0 + 1 - (m + 1)) * 256 := by
            rw [← Int.pow_succ]; congr 1; omega
          have hD := HD.out
          have hv : a * 256 + (s[m].toNat : Int) = bytesVal ((strNums s (m0 + 1)).drop m) - 256 ^ (m0 + 1 - m) := by
            rw [hD, hp, hA]; omega
          refine ⟨m - 1, a * 256 + (s[m].toNat : Int), by omega, by omega, rfl, rfl, ?_, ?_⟩
          · intro hmz
            have h8 : (256 : Int) ^ (m0 + 1 - m) ≤ 256 ^ 7 := pow256_le (by omega)
            have hh := (drop_high s m0 m HG.out (by omega)).2 (by rw [← HS.out]; exact hc)
            rw [hv]
            have e7 : (256 : Int) ^ 7 = 72057594037927936 := rfl
            omega
          · show _ = _
            rw [hmm, hv]
        case measure => simp [intOf]
      · obtain rfl : q = -1 := by omega
        go_wp2
        go_ret2
        have hA := HA.out
        simp only [Int.reduceNeg, Int.add_left_neg, Int.toNat_zero, List.drop_zero, Nat.sub_zero] at hA
        refine ⟨?_, rfl⟩
        rw [hA, F.out, HT.out]
        rfl
  · have F := Lib.hid (take_pos s m0 HG.out (by rw [← HS.out]; omega))
    go_enter Try.func44, Try.ntmps44
    go_wp2_with (go_at_call 52; refine (refSized_yes _ HN.out _).mono ?_; rintro e w' ⟨rfl, rfl⟩)
    clear hix
    go_loop [7, 8] (fun u i => ∃ q a : Int, -1 ≤ q ∧ q < n ∧ i = .int .i64 q ∧ u = .int .i64 a ∧ 0 ≤ a ∧ (0 ≤ q → a < 36028797018963968) ∧ Hid (a = bytesVal ((strNums s (m0 + 1)).drop (q + 1).toNat))) (fun _ i => (intOf i + 1).toNat)
    case atStart =>
      have hM := HM.out
      refine ⟨n - 1, 0, by omega, by omega, rfl, rfl, by omega, by omega, ?_⟩
      show _ = _
      rw [List.drop_of_length_le (by rw [strNums_length _ _ HG.out]; omega)]
      rfl
    case round =>
      obtain ⟨q, a, hq0, hq1, rfl, rfl, ha0, ha1, HA⟩ := hrel
      by_cases hq : 0 ≤ q
      · obtain ⟨m, rfl⟩ := Int.eq_ofNat_of_zero_le hq
        have ha3 := ha1 hq
        have hms : m < s.size := by omega
        have hb0 : (0 : Int) ≤ (s[m].toNat : Int) := by omega
        have hb1 : (s[m].toNat : Int) < 256 := by have := s[m].toNat_lt; omega
        have HD := Lib.hid (drop_val s (m0 + 1) m HG.out (by have := HM.out; omega))
        clear ha1
        go_wp2
        go_round
        case rel =>
          have hM := HM.out
          have hr := drop_range s (m0 + 1) m HG.out
          have hmm : ((m : Int) - 1 + 1).toNat = m := by omega
          have hm1 : ((m : Int) + 1).toNat = m + 1 := by omega
          have hA := HA.out
          rw [hm1] at hA
          have hD := HD.out
          have hv : a * 256 + (s[m].toNat : Int) = bytesVal ((strNums s (m0 + 1)).drop m) := by
            rw [hD, hA]; omega
          refine ⟨m - 1, a * 256 + (s[m].toNat : Int), by omega, by omega, rfl, rfl, by omega, ?_, ?_⟩
          · intro hmz
            have h8 : (256 : Int) ^ (m0 + 1 - m) ≤ 256 ^ 7 := pow256_le (by omega)
            have hh : ¬ (256 : Int) ^ (m0 + 1 - m) ≤ 2 * bytesVal ((strNums s (m0 + 1)).drop m) := fun e => by
              have := (drop_high s m0 m HG.out (by omega)).1 e
              rw [← HS.out] at this; omega
            rw [hv]
            have e7 : (256 : Int) ^ 7 = 72057594037927936 := rfl
            omega
          · show _ = _
            rw [hmm, hv]
        case measure => simp [intOf]
      · obtain rfl : q = -1 := by omega
        go_wp2
        go_ret2
        have hA := HA.out
        simp only [Int.reduceNeg, Int.add_left_neg, Int.toNat_zero, List.drop_zero] at hA
        refine ⟨?_, rfl⟩
        rw [hA, F.out, HT.out]
        rfl
theorem refTake_no (s : ByteArray) (n : Int) (hn : ¬ (n = 1 ∨ n = 2 ∨ n = 4 ∨ n = 8)) (w : World) :
    Calls Try.prog 44 #[.string s, .int .i64 n] w fun e w' => e = .returned (.tuple #[.int .i64 0, .int .i64 1]) ∧ w = w' := by
  have HN := Lib.hid hn
  clear hn
  go_enter Try.func44, Try.ntmps44
  go_wp2_with (go_at_call 52; refine (refSized_no n HN.out _).mono ?_; rintro e w' ⟨rfl, rfl⟩)
  go_ret2
  exact ⟨rfl, rfl⟩
theorem refTake_short (s : ByteArray) (n : Int) (hn : n = 1 ∨ n = 2 ∨ n = 4 ∨ n = 8) (hs : (s.size : Int) < n) (w : World) :
    Calls Try.prog 44 #[.string s, .int .i64 n] w fun e w' => e = .returned (.tuple #[.int .i64 0, .int .i64 1]) ∧ w = w' := by
  have HN := Lib.hid hn
  clear hn
  go_enter Try.func44, Try.ntmps44
  go_wp2_with (go_at_call 52; refine (refSized_yes n HN.out _).mono ?_; rintro e w' ⟨rfl, rfl⟩)
  go_ret2
  exact ⟨rfl, rfl⟩
theorem take_no (s : ByteArray) (n : Int) (hn : ¬ (n = 1 ∨ n = 2 ∨ n = 4 ∨ n = 8)) (w : World) :
    Calls Try.prog 43 #[.string s, .int .i64 n] w fun e w' => e = .returned (.tuple #[.int .i64 0, .int .i64 1]) ∧ w = w' := by
  have HN := Lib.hid hn
  clear hn
  go_enter Try.func43, Try.ntmps43
  go_wp2_with (go_at_call 51; refine (sized_no n HN.out _).mono ?_; rintro e w' ⟨rfl, rfl⟩)
  go_ret2
  exact ⟨rfl, rfl⟩
theorem take_short (s : ByteArray) (n : Int) (hn : n = 1 ∨ n = 2 ∨ n = 4 ∨ n = 8) (hs : (s.size : Int) < n) (w : World) :
    Calls Try.prog 43 #[.string s, .int .i64 n] w fun e w' => e = .returned (.tuple #[.int .i64 0, .int .i64 1]) ∧ w = w' := by
  have HN := Lib.hid hn
  clear hn
  go_enter Try.func43, Try.ntmps43
  go_wp2_with (go_at_call 51; refine (sized_yes n HN.out _).mono ?_; rintro e w' ⟨rfl, rfl⟩)
  go_ret2
  exact ⟨rfl, rfl⟩
theorem narrow_any (x k : Int) (hx : I64 x) (w : World) :
    Calls Try.prog 45 #[.int .i64 x, .int .i64 k] w fun e w' => e = .returned (.tuple #[.int .i64 (narrowZ x k), .int .i64 (narrowE k)]) ∧ w = w' := by
  by_cases hk : 0 ≤ k ∧ k ≤ 5
  · rcases (show k = 0 ∨ k = 1 ∨ k = 2 ∨ k = 3 ∨ k = 4 ∨ k = 5 by omega) with rfl | rfl | rfl | rfl | rfl | rfl
    all_goals
      clear hk
      go_enter Try.func45, Try.ntmps45
      go_wp2
      go_ret2
      refine ⟨?_, rfl⟩
      first | rfl | (simp [narrowZ, narrowE, wrap64, wrap32, IntKind.wrap, IntKind.bits, IntKind.signed]; try omega)
  · have e0 : (k == 0) = false := by simp; omega
    have e1 : (k == 1) = false := by simp; omega
    have e2 : (k == 2) = false := by simp; omega
    have e3 : (k == 3) = false := by simp; omega
    have e4 : (k == 4) = false := by simp; omega
    have e5 : (k == 5) = false := by simp; omega
    have en : narrowE k = 1 := by unfold narrowE; rw [if_neg hk]
    have ez : narrowZ x k = 0 := by unfold narrowZ; repeat (rw [if_neg (by omega)])
    rw [en, ez]
    clear en ez hk
    go_enter Try.func45, Try.ntmps45
    go_wp2
    go_ret2
    exact ⟨rfl, rfl⟩
set_option maxHeartbeats 1000000 in
theorem refNarrow_in (x k : Int) (hk : k = 0 ∨ k = 1 ∨ k = 2 ∨ k = 3 ∨ k = 4 ∨ k = 5) (w : World) :
    Calls Try.prog 46 #[.int .i64 x, .int .i64 k] w fun e w' => e = .returned (.tuple #[.int .i64 (narrowZ x k), .int .i64 (narrowE k)]) ∧ w = w' := by
  rcases hk with rfl | rfl | rfl | rfl | rfl | rfl
  · have hr0 : 0 ≤ x % 256 := by omega
    have hr1 : x % 256 < 256 := by omega
    have en : narrowE 0 = 0 := rfl
    rw [en]
    clear en
    by_cases hc : 128 ≤ x % 256
    · have ez : narrowZ x 0 = x % 256 - 128 - 128 := by unfold narrowZ; simp; omega
      rw [ez]
      clear ez
      go_enter Try.func46, Try.ntmps46
      go_wp2_with (go_at_call 53; refine (least_8 x _).mono ?_; rintro e w' ⟨rfl, rfl⟩)
      go_ret2
      exact ⟨rfl, rfl⟩
    · have ez : narrowZ x 0 = x % 256 := by unfold narrowZ; simp; omega
      rw [ez]
      clear ez
      have hd : decide ((128 : Int) ≤ x % 256) = false := by simp; omega
      go_enter Try.func46, Try.ntmps46
      go_wp2_with (go_at_call 53; refine (least_8 x _).mono ?_; rintro e w' ⟨rfl, rfl⟩)
      go_ret2
      exact ⟨rfl, rfl⟩
  · have hr0 : 0 ≤ x % 65536 := by omega
    have hr1 : x % 65536 < 65536 := by omega
    have en : narrowE 1 = 0 := rfl
    rw [en]
    clear en
    by_cases hc : 32768 ≤ x % 65536
    · have ez : narrowZ x 1 = x % 65536 - 32768 - 32768 := by unfold narrowZ; simp; omega
      rw [ez]
      clear ez
      go_enter Try.func46, Try.ntmps46
      go_wp2_with (go_at_call 53; refine (least_16 x _).mono ?_; rintro e w' ⟨rfl, rfl⟩)
      go_ret2
      exact ⟨rfl, rfl⟩
    · have ez : narrowZ x 1 = x % 65536 := by unfold narrowZ; simp; omega
      rw [ez]
      clear ez
      have hd : decide ((32768 : Int) ≤ x % 65536) = false := by simp; omega
      go_enter Try.func46, Try.ntmps46
      go_wp2_with (go_at_call 53; refine (least_16 x _).mono ?_; rintro e w' ⟨rfl, rfl⟩)
      go_ret2
      exact ⟨rfl, rfl⟩
  · have hr0 : 0 ≤ x % 4294967296 := by omega
    have hr1 : x % 4294967296 < 4294967296 := by omega
    have en : narrowE 2 = 0 := rfl
    rw [en]
    clear en
    by_cases hc : 2147483648 ≤ x % 4294967296
    · have ez : narrowZ x 2 = x % 4294967296 - 2147483648 - 2147483648 := by unfold narrowZ; simp; omega
      rw [ez]
      clear ez
      go_enter Try.func46, Try.ntmps46
      go_wp2_with (go_at_call 53; refine (least_32 x _).mono ?_; rintro e w' ⟨rfl, rfl⟩)
      go_ret2
      exact ⟨rfl, rfl⟩
    · have ez : narrowZ x 2 = x % 4294967296 := by unfold narrowZ; simp; omega
      rw [ez]
      clear ez
      have hd : decide ((2147483648 : Int) ≤ x % 4294967296) = false := by simp; omega
      go_enter Try.func46, Try.ntmps46
      go_wp2_with (go_at_call 53; refine (least_32 x _).mono ?_; rintro e w' ⟨rfl, rfl⟩)
      go_ret2
      exact ⟨rfl, rfl⟩
  · have hr0 : 0 ≤ x % 256 := by omega
    have hr1 : x % 256 < 256 := by omega
    have en : narrowE 3 = 0 := rfl
    rw [en]
    clear en
    have ez : narrowZ x 3 = x % 256 := by unfold narrowZ; simp
    rw [ez]
    clear ez
    go_enter Try.func46, Try.ntmps46
    go_wp2_with (go_at_call 53; refine (least_8 x _).mono ?_; rintro e w' ⟨rfl, rfl⟩)
    go_ret2
    exact ⟨rfl, rfl⟩
  · have hr0 : 0 ≤ x % 65536 := by omega
    have hr1 : x % 65536 < 65536 := by omega
    have en : narrowE 4 = 0 := rfl
    rw [en]
    clear en
    have ez : narrowZ x 4 = x % 65536 := by unfold narrowZ; simp
    rw [ez]
    clear ez
    go_enter Try.func46, Try.ntmps46
    go_wp2_with (go_at_call 53; refine (least_16 x _).mono ?_; rintro e w' ⟨rfl, rfl⟩)
    go_ret2
    exact ⟨rfl, rfl⟩
  · have hr0 : 0 ≤ x % 4294967296 := by omega
    have hr1 : x % 4294967296 < 4294967296 := by omega
    have en : narrowE 5 = 0 := rfl
    rw [en]
    clear en
    have ez : narrowZ x 5 = x % 4294967296 := by unfold narrowZ; simp
    rw [ez]
    clear ez
    go_enter Try.func46, Try.ntmps46
    go_wp2_with (go_at_call 53; refine (least_32 x _).mono ?_; rintro e w' ⟨rfl, rfl⟩)
    go_ret2
    exact ⟨rfl, rfl⟩
theorem refNarrow_any (x k : Int) (w : World) :
    Calls Try.prog 46 #[.int .i64 x, .int .i64 k] w fun e w' => e = .returned (.tuple #[.int .i64 (narrowZ x k), .int .i64 (narrowE k)]) ∧ w = w' := by
  by_cases hk : 0 ≤ k ∧ k ≤ 5
  · exact refNarrow_in x k (by omega) w
  · have en : narrowE k = 1 := by unfold narrowE; rw [if_neg hk]
    have ez : narrowZ x k = 0 := by unfold narrowZ; repeat (rw [if_neg (by omega)])
    rw [en, ez]
    clear en ez
    by_cases h0 : k < 0
    · go_enter Try.func46, Try.ntmps46
      go_wp2
      go_ret2
      exact ⟨rfl, rfl⟩
    · have h5 : 5 < k := by omega
      clear hk
      go_enter Try.func46, Try.ntmps46
      go_wp2
      go_ret2
      exact ⟨rfl, rfl⟩
end Go.Proofs.Ytojnlkbfhodaaaa
