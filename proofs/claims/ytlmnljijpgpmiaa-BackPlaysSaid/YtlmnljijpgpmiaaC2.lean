/- Contracts of layer 2 (sig): With. -/
import Derived.Test.YtlmnljijpgpmiaaC1b
import Derived.Test.YtlmnljijpgpmiaaS2
import Derived.Below
import Derived.RegionTactic
import Derived.ChangeAlike
import Derived.BigRegion
namespace Go.Proofs.Ytlmnljijpgpmiaa
open Go.RowKit
set_option linter.unusedVariables false
theorem with_at0 (s : Nat → Int) (c q : Int) (h1 : q / 64 = 0) (h2 : 0 ≤ bits .and .i64 q 63) (h3 : bits .and .i64 q 63 ≤ 63) (HH : Hid (sigHashZ c = q)) (t : Int)
    (hw : bits .or .u64 (s 0) (IntKind.u64.wrap (2 ^ (bits .and .i64 q 63).toNat)) = t) (w : World) :
    Calls Try.prog 25 #[(.agg #[.int .u64 (s 0), .int .u64 (s 1), .int .u64 (s 2), .int .u64 (s 3), .int .u64 (s 4), .int .u64 (s 5), .int .u64 (s 6), .int .u64 (s 7)]), .int .i64 c] w fun e w' => e = .returned (.agg #[.int .u64 t, .int .u64 (s 1), .int .u64 (s 2), .int .u64 (s 3), .int .u64 (s 4), .int .u64 (s 5), .int .u64 (s 6), .int .u64 (s 7)]) ∧ Below w.heap.size w w' := by
  go_enter Try.func25, Try.ntmps25
  go_wp2_with fail
  refine (sigHash_any c _).mono ?_; rw [HH.out]; rintro e w1 ⟨rfl, rfl⟩
  go_wp2_with fail
  go_region
  go_wp2
  refine bodyPost_ret (v := _) (by simp [results, Try.results25, go_sem]) rfl ⟨rfl, ?_⟩
  exact ((((Below.refl _ _).alloc (Nat.le_refl _) _).alloc (by simp) _)).drew
theorem with_at1 (s : Nat → Int) (c q : Int) (h1 : q / 64 = 1) (h2 : 0 ≤ bits .and .i64 q 63) (h3 : bits .and .i64 q 63 ≤ 63) (HH : Hid (sigHashZ c = q)) (t : Int)
    (hw : bits .or .u64 (s 1) (IntKind.u64.wrap (2 ^ (bits .and .i64 q 63).toNat)) = t) (w : World) :
    Calls Try.prog 25 #[(.agg #[.int .u64 (s 0), .int .u64 (s 1), .int .u64 (s 2), .int .u64 (s 3), .int .u64 (s 4), .int .u64 (s 5), .int .u64 (s 6), .int .u64 (s 7)]), .int .i64 c] w fun e w' => e = .returned (.agg #[.int .u64 (s 0), .int .u64 t, .int .u64 (s 2), .int .u64 (s 3), .int .u64 (s 4), .int .u64 (s 5), .int .u64 (s 6), .int .u64 (s 7)]) ∧ Below w.heap.size w w' := by
  go_enter Try.func25, Try.ntmps25
  go_wp2_with fail
  refine (sigHash_any c _).mono ?_; rw [HH.out]; rintro e w1 ⟨rfl, rfl⟩
  go_wp2_with fail
  go_region
  go_wp2
  refine bodyPost_ret (v := _) (by simp [results, Try.results25, go_sem]) rfl ⟨rfl, ?_⟩
  exact ((((Below.refl _ _).alloc (Nat.le_refl _) _).alloc (by simp) _)).drew
theorem with_at2 (s : Nat → Int) (c q : Int) (h1 : q / 64 = 2) (h2 : 0 ≤ bits .and .i64 q 63) (h3 : bits .and .i64 q 63 ≤ 63) (HH : Hid (sigHashZ c = q)) (t : Int)
    (hw : bits .or .u64 (s 2) (IntKind.u64.wrap (2 ^ (bits .and .i64 q 63).toNat)) = t) (w : World) :
    Calls Try.prog 25 #[(.agg #[.int .u64 (s 0), .int .u64 (s 1), .int .u64 (s 2), .int .u64 (s 3), .int .u64 (s 4), .int .u64 (s 5), .int .u64 (s 6), .int .u64 (s 7)]), .int .i64 c] w fun e w' => e = .returned (.agg #[.int .u64 (s 0), .int .u64 (s 1), .int .u64 t, .int .u64 (s 3), .int .u64 (s 4), .int .u64 (s 5), .int .u64 (s 6), .int .u64 (s 7)]) ∧ Below w.heap.size w w' := by
  go_enter Try.func25, Try.ntmps25
  go_wp2_with fail
  refine (sigHash_any c _).mono ?_; rw [HH.out]; rintro e w1 ⟨rfl, rfl⟩
  go_wp2_with fail
  go_region
  go_wp2
  refine bodyPost_ret (v := _) (by simp [results, Try.results25, go_sem]) rfl ⟨rfl, ?_⟩
  exact ((((Below.refl _ _).alloc (Nat.le_refl _) _).alloc (by simp) _)).drew
theorem with_at3 (s : Nat → Int) (c q : Int) (h1 : q / 64 = 3) (h2 : 0 ≤ bits .and .i64 q 63) (h3 : bits .and .i64 q 63 ≤ 63) (HH : Hid (sigHashZ c = q)) (t : Int)
    (hw : bits .or .u64 (s 3) (IntKind.u64.wrap (2 ^ (bits .and .i64 q 63).toNat)) = t) (w : World) :
    Calls Try.prog 25 #[(.agg #[.int .u64 (s 0), .int .u64 (s 1), .int .u64 (s 2), .int .u64 (s 3), .int .u64 (s 4), .int .u64 (s 5), .int .u64 (s 6), .int .u64 (s 7)]), .int .i64 c] w fun e w' => e = .returned (.agg #[.int .u64 (s 0), .int .u64 (s 1), .int .u64 (s 2), .int .u64 t, .int .u64 (s 4), .int .u64 (s 5), .int .u64 (s 6), .int .u64 (s 7)]) ∧ Below w.heap.size w w' := by
  go_enter Try.func25, Try.ntmps25
  go_wp2_with fail
  refine (sigHash_any c _).mono ?_; rw [HH.out]; rintro e w1 ⟨rfl, rfl⟩
  go_wp2_with fail
  go_region
  go_wp2
  refine bodyPost_ret (v := _) (by simp [results, Try.results25, go_sem]) rfl ⟨rfl, ?_⟩
  exact ((((Below.refl _ _).alloc (Nat.le_refl _) _).alloc (by simp) _)).drew
theorem with_at4 (s : Nat → Int) (c q : Int) (h1 : q / 64 = 4) (h2 : 0 ≤ bits .and .i64 q 63) (h3 : bits .and .i64 q 63 ≤ 63) (HH : Hid (sigHashZ c = q)) (t : Int)
    (hw : bits .or .u64 (s 4) (IntKind.u64.wrap (2 ^ (bits .and .i64 q 63).toNat)) = t) (w : World) :
    Calls Try.prog 25 #[(.agg #[.int .u64 (s 0), .int .u64 (s 1), .int .u64 (s 2), .int .u64 (s 3), .int .u64 (s 4), .int .u64 (s 5), .int .u64 (s 6), .int .u64 (s 7)]), .int .i64 c] w fun e w' => e = .returned (.agg #[.int .u64 (s 0), .int .u64 (s 1), .int .u64 (s 2), .int .u64 (s 3), .int .u64 t, .int .u64 (s 5), .int .u64 (s 6), .int .u64 (s 7)]) ∧ Below w.heap.size w w' := by
  go_enter Try.func25, Try.ntmps25
  go_wp2_with fail
  refine (sigHash_any c _).mono ?_; rw [HH.out]; rintro e w1 ⟨rfl, rfl⟩
  go_wp2_with fail
  go_region
  go_wp2
  refine bodyPost_ret (v := _) (by simp [results, Try.results25, go_sem]) rfl ⟨rfl, ?_⟩
  exact ((((Below.refl _ _).alloc (Nat.le_refl _) _).alloc (by simp) _)).drew
theorem with_at5 (s : Nat → Int) (c q : Int) (h1 : q / 64 = 5) (h2 : 0 ≤ bits .and .i64 q 63) (h3 : bits .and .i64 q 63 ≤ 63) (HH : Hid (sigHashZ c = q)) (t : Int)
    (hw : bits .or .u64 (s 5) (IntKind.u64.wrap (2 ^ (bits .and .i64 q 63).toNat)) = t) (w : World) :
    Calls Try.prog 25 #[(.agg #[.int .u64 (s 0), .int .u64 (s 1), .int .u64 (s 2), .int .u64 (s 3), .int .u64 (s 4), .int .u64 (s 5), .int .u64 (s 6), .int .u64 (s 7)]), .int .i64 c] w fun e w' => e = .returned (.agg #[.int .u64 (s 0), .int .u64 (s 1), .int .u64 (s 2), .int .u64 (s 3), .int .u64 (s 4), .int .u64 t, .int .u64 (s 6), .int .u64 (s 7)]) ∧ Below w.heap.size w w' := by
  go_enter Try.func25, Try.ntmps25
  go_wp2_with fail
  refine (sigHash_any c _).mono ?_; rw [HH.out]; rintro e w1 ⟨rfl, rfl⟩
  go_wp2_with fail
  go_region
  go_wp2
  refine bodyPost_ret (v := _) (by simp [results, Try.results25, go_sem]) rfl ⟨rfl, ?_⟩
  exact ((((Below.refl _ _).alloc (Nat.le_refl _) _).alloc (by simp) _)).drew
theorem with_at6 (s : Nat → Int) (c q : Int) (h1 : q / 64 = 6) (h2 : 0 ≤ bits .and .i64 q 63) (h3 : bits .and .i64 q 63 ≤ 63) (HH : Hid (sigHashZ c = q)) (t : Int)
    (hw : bits .or .u64 (s 6) (IntKind.u64.wrap (2 ^ (bits .and .i64 q 63).toNat)) = t) (w : World) :
    Calls Try.prog 25 #[(.agg #[.int .u64 (s 0), .int .u64 (s 1), .int .u64 (s 2), .int .u64 (s 3), .int .u64 (s 4), .int .u64 (s 5), .int .u64 (s 6), .int .u64 (s 7)]), .int .i64 c] w fun e w' => e = .returned (.agg #[.int .u64 (s 0), .int .u64 (s 1), .int .u64 (s 2), .int .u64 (s 3), .int .u64 (s 4), .int .u64 (s 5), .int .u64 t, .int .u64 (s 7)]) ∧ Below w.heap.size w w' := by
  go_enter Try.func25, Try.ntmps25
  go_wp2_with fail
  refine (sigHash_any c _).mono ?_; rw [HH.out]; rintro e w1 ⟨rfl, rfl⟩
  go_wp2_with fail
  go_region
  go_wp2
  refine bodyPost_ret (v := _) (by simp [results, Try.results25, go_sem]) rfl ⟨rfl, ?_⟩
  exact ((((Below.refl _ _).alloc (Nat.le_refl _) _).alloc (by simp) _)).drew
theorem with_at7 (s : Nat → Int) (c q : Int) (h1 : q / 64 = 7) (h2 : 0 ≤ bits .and .i64 q 63) (h3 : bits .and .i64 q 63 ≤ 63) (HH : Hid (sigHashZ c = q)) (t : Int)
    (hw : bits .or .u64 (s 7) (IntKind.u64.wrap (2 ^ (bits .and .i64 q 63).toNat)) = t) (w : World) :
    Calls Try.prog 25 #[(.agg #[.int .u64 (s 0), .int .u64 (s 1), .int .u64 (s 2), .int .u64 (s 3), .int .u64 (s 4), .int .u64 (s 5), .int .u64 (s 6), .int .u64 (s 7)]), .int .i64 c] w fun e w' => e = .returned (.agg #[.int .u64 (s 0), .int .u64 (s 1), .int .u64 (s 2), .int .u64 (s 3), .int .u64 (s 4), .int .u64 (s 5), .int .u64 (s 6), .int .u64 t]) ∧ Below w.heap.size w w' := by
  go_enter Try.func25, Try.ntmps25
  go_wp2_with fail
  refine (sigHash_any c _).mono ?_; rw [HH.out]; rintro e w1 ⟨rfl, rfl⟩
  go_wp2_with fail
  go_region
  go_wp2
  refine bodyPost_ret (v := _) (by simp [results, Try.results25, go_sem]) rfl ⟨rfl, ?_⟩
  exact ((((Below.refl _ _).alloc (Nat.le_refl _) _).alloc (by simp) _)).drew
theorem with_any (s : Nat → Int) (hs : Wds s) (c : Int) (w : World) :
    Calls Try.prog 25 #[(.agg #[.int .u64 (s 0), .int .u64 (s 1), .int .u64 (s 2), .int .u64 (s 3), .int .u64 (s 4), .int .u64 (s 5), .int .u64 (s 6), .int .u64 (s 7)]), .int .i64 c] w fun e w' => e = .returned (.agg #[.int .u64 (withS s c 0), .int .u64 (withS s c 1), .int .u64 (withS s c 2), .int .u64 (withS s c 3), .int .u64 (withS s c 4), .int .u64 (withS s c 5), .int .u64 (withS s c 6), .int .u64 (withS s c 7)]) ∧ Below w.heap.size w w' := by
  have hr := sigHashZ_range c
  obtain ⟨q, hq⟩ : ∃ q, sigHashZ c = q := ⟨_, rfl⟩
  rw [hq] at hr
  have h2 : 0 ≤ bits .and .i64 q 63 := by rw [and63_i64 _ (by omega) (by omega)]; omega
  have h3 : bits .and .i64 q 63 ≤ 63 := by rw [and63_i64 _ (by omega) (by omega)]; omega
  rcases (show q / 64 = 0 ∨ q / 64 = 1 ∨ q / 64 = 2 ∨ q / 64 = 3 ∨ q / 64 = 4 ∨ q / 64 = 5 ∨ q / 64 = 6 ∨ q / 64 = 7 by omega) with h | h | h | h | h | h | h | h
  · rw [with_ne s c q 0 1 hq h (by decide), with_ne s c q 0 2 hq h (by decide), with_ne s c q 0 3 hq h (by decide), with_ne s c q 0 4 hq h (by decide), with_ne s c q 0 5 hq h (by decide), with_ne s c q 0 6 hq h (by decide), with_ne s c q 0 7 hq h (by decide)]
    exact with_at0 s c q h h2 h3 hq _ (put_walkZ s hs c q 0 hq h) w
  · rw [with_ne s c q 1 0 hq h (by decide), with_ne s c q 1 2 hq h (by decide), with_ne s c q 1 3 hq h (by decide), with_ne s c q 1 4 hq h (by decide), with_ne s c q 1 5 hq h (by decide), with_ne s c q 1 6 hq h (by decide), with_ne s c q 1 7 hq h (by decide)]
    exact with_at1 s c q h h2 h3 hq _ (put_walkZ s hs c q 1 hq h) w
  · rw [with_ne s c q 2 0 hq h (by decide), with_ne s c q 2 1 hq h (by decide), with_ne s c q 2 3 hq h (by decide), with_ne s c q 2 4 hq h (by decide), with_ne s c q 2 5 hq h (by decide), with_ne s c q 2 6 hq h (by decide), with_ne s c q 2 7 hq h (by decide)]
    exact with_at2 s c q h h2 h3 hq _ (put_walkZ s hs c q 2 hq h) w
  · rw [with_ne s c q 3 0 hq h (by decide), with_ne s c q 3 1 hq h (by decide), with_ne s c q 3 2 hq h (by decide), with_ne s c q 3 4 hq h (by decide), with_ne s c q 3 5 hq h (by decide), with_ne s c q 3 6 hq h (by decide), with_ne s c q 3 7 hq h (by decide)]
    exact with_at3 s c q h h2 h3 hq _ (put_walkZ s hs c q 3 hq h) w
  · rw [with_ne s c q 4 0 hq h (by decide), with_ne s c q 4 1 hq h (by decide), with_ne s c q 4 2 hq h (by decide), with_ne s c q 4 3 hq h (by decide), with_ne s c q 4 5 hq h (by decide), with_ne s c q 4 6 hq h (by decide), with_ne s c q 4 7 hq h (by decide)]
    exact with_at4 s c q h h2 h3 hq _ (put_walkZ s hs c q 4 hq h) w
  · rw [with_ne s c q 5 0 hq h (by decide), with_ne s c q 5 1 hq h (by decide), with_ne s c q 5 2 hq h (by decide), with_ne s c q 5 3 hq h (by decide), with_ne s c q 5 4 hq h (by decide), with_ne s c q 5 6 hq h (by decide), with_ne s c q 5 7 hq h (by decide)]
    exact with_at5 s c q h h2 h3 hq _ (put_walkZ s hs c q 5 hq h) w
  · rw [with_ne s c q 6 0 hq h (by decide), with_ne s c q 6 1 hq h (by decide), with_ne s c q 6 2 hq h (by decide), with_ne s c q 6 3 hq h (by decide), with_ne s c q 6 4 hq h (by decide), with_ne s c q 6 5 hq h (by decide), with_ne s c q 6 7 hq h (by decide)]
    exact with_at6 s c q h h2 h3 hq _ (put_walkZ s hs c q 6 hq h) w
  · rw [with_ne s c q 7 0 hq h (by decide), with_ne s c q 7 1 hq h (by decide), with_ne s c q 7 2 hq h (by decide), with_ne s c q 7 3 hq h (by decide), with_ne s c q 7 4 hq h (by decide), with_ne s c q 7 5 hq h (by decide), with_ne s c q 7 6 hq h (by decide)]
    exact with_at7 s c q h h2 h3 hq _ (put_walkZ s hs c q 7 hq h) w
end Go.Proofs.Ytlmnljijpgpmiaa
