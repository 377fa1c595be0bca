/- Layer 8: the program's machine as an object; its small functions. -/
import Derived.Test.YtojkeahffabifaaG0
import Derived.Test.YtojkeahffabifaaS8
import Derived.Test.YtojkeahffabifaaM3
import Derived.Test.YtojkeahffabifaaC3c
import Derived.Test.YtojkeahffabifaaC3h
import Derived.Test.YtojkeahffabifaaC4
import Derived.Deep.QuietTactic
import Derived.BigQuiet
namespace Go.Proofs.Ytojkeahffabifaa
open Go.RowKit
set_option linter.unusedVariables false
def chkC (size fr : Int) (rs : Nat → Int) (last : Bool) (s : CS) : Array Value := #[.int .i64 size, .int .i64 fr, .int .u64 (rs 0), .int .u64 (rs 1), .int .u64 (rs 2), .int .u64 (rs 3), .int .u64 (rs 4), .int .u64 (rs 5), .int .u64 (rs 6), .int .u64 (rs 7), .bool last, .int .i64 s.st, .int .i64 s.start, .int .i64 s.seen, .int .i64 s.sk, .int .i64 s.word]
abbrev ChkH (x : Nat) (size fr : Int) (rs : Nat → Int) (last : Bool) (s : CS) : HP := BlkH x (chkC size fr rs last s) 124
/-- What the walk reads of the machine. -/
structure ChkR (w : World) (x : Nat) (size fr : Int) (rs : Nat → Int) (last : Bool) (s : CS) : Prop where
  c0 : w.cell? ⟨x, 0, none⟩ = some (.int .i64 size)
  c1 : w.cell? ⟨x, 1, none⟩ = some (.int .i64 fr)
  rd : ∀ k, k < 8 → w.cell? ⟨x, 2 + k, none⟩ = some (.int .u64 (rs k))
  c10 : w.cell? ⟨x, 10, none⟩ = some (.bool last)
  c11 : w.cell? ⟨x, 11, none⟩ = some (.int .i64 s.st)
  c12 : w.cell? ⟨x, 12, none⟩ = some (.int .i64 s.start)
  c13 : w.cell? ⟨x, 13, none⟩ = some (.int .i64 s.seen)
  c14 : w.cell? ⟨x, 14, none⟩ = some (.int .i64 s.sk)
  c15 : w.cell? ⟨x, 15, none⟩ = some (.int .i64 s.word)
  fz : ∀ o, w.frozen? ⟨x, o, none⟩ = false
theorem chk_cells {w : World} {x : Nat} {size fr : Int} {rs : Nat → Int} {last : Bool} {s : CS} {T : TypeId} (h : w.heap[x]? = some (.cells (chkC size fr rs last s) T)) : ChkR w x size fr rs last s where
  c0 := by simp [World.cell?, h, chkC]
  c1 := by simp [World.cell?, h, chkC]
  rd := by
    intro k hk
    match k, hk with
    | 0, _ => simp [World.cell?, h, chkC]
    | 1, _ => simp [World.cell?, h, chkC]
    | 2, _ => simp [World.cell?, h, chkC]
    | 3, _ => simp [World.cell?, h, chkC]
    | 4, _ => simp [World.cell?, h, chkC]
    | 5, _ => simp [World.cell?, h, chkC]
    | 6, _ => simp [World.cell?, h, chkC]
    | 7, _ => simp [World.cell?, h, chkC]
  c10 := by simp [World.cell?, h, chkC]
  c11 := by simp [World.cell?, h, chkC]
  c12 := by simp [World.cell?, h, chkC]
  c13 := by simp [World.cell?, h, chkC]
  c14 := by simp [World.cell?, h, chkC]
  c15 := by simp [World.cell?, h, chkC]
  fz := fun o => by simp [World.frozen?, h]
theorem chkNew_bad (n fr : Int) (rs : Nat → Int) (last : Bool) (h : ¬ ((1 ≤ n ∧ n ≤ 16) ∧ 0 ≤ fr)) (w : World) : Calls Try.prog 32 #[.int .i64 n, .int .i64 fr, (.agg #[.int .u64 (rs 0), .int .u64 (rs 1), .int .u64 (rs 2), .int .u64 (rs 3), .int .u64 (rs 4), .int .u64 (rs 5), .int .u64 (rs 6), .int .u64 (rs 7)]), .bool last] w fun e w' => e = .returned (.tuple #[.pointer none, .int .i64 1]) ∧ Below w.heap.size w w' := by
  have HB : Hid (∀ o, Below w.heap.size w (w.alloc o)) := fun o => (Below.refl _ _).alloc (Nat.le_refl _) _
  by_cases h1 : 1 ≤ n
  · by_cases h2 : n ≤ 16
    · have h3 : ¬ 0 ≤ fr := fun h3 => h ⟨⟨h1, h2⟩, h3⟩
      clear h
      go_enter Try.func32, Try.ntmps32
      go_wp2_with fail
      go_ret2
      exact ⟨rfl, HB.out _⟩
    · clear h
      go_enter Try.func32, Try.ntmps32
      go_wp2_with fail
      go_ret2
      exact ⟨rfl, HB.out _⟩
  · clear h
    go_enter Try.func32, Try.ntmps32
    go_wp2_with fail
    go_ret2
    exact ⟨rfl, HB.out _⟩
/-- The program's New has answered. -/
def ChkNew (w : World) (n fr : Int) (rs : Nat → Int) (last : Bool) (e : Ending) (w' : World) : Prop := ∃ x, e = .returned (.tuple #[.pointer (some ⟨x, 0, none⟩), .int .i64 0]) ∧ AtW w (ChkH x n fr rs last ⟨0, fr, 0, 0, 0⟩) w'
theorem chkNew_any (n fr : Int) (rs : Nat → Int) (last : Bool) (h1 : 1 ≤ n) (h2 : n ≤ 16) (h3 : 0 ≤ fr) (w : World) : Calls Try.prog 32 #[.int .i64 n, .int .i64 fr, (.agg #[.int .u64 (rs 0), .int .u64 (rs 1), .int .u64 (rs 2), .int .u64 (rs 3), .int .u64 (rs 4), .int .u64 (rs 5), .int .u64 (rs 6), .int .u64 (rs 7)]), .bool last] w (ChkNew w n fr rs last) := by
  go_enter Try.func32, Try.ntmps32
  go_wp2_with fail
  go_ret2
  refine ⟨w.heap.size + 1, rfl, fun b => b = w.heap.size + 1, ⟨?_, fun _ => Iff.rfl⟩, ((Below.refl _ _).alloc (Nat.le_refl _) _).alloc (by simp) _, fun b h => by omega⟩
  have h : ∀ a b, ((w.alloc a).alloc b).heap[w.heap.size + 1]? = some b := fun a b => by
    have h := heapAlloc (w.alloc a) b
    rwa [World.size_alloc] at h
  exact h _ _
theorem chkMoves_on (x : Nat) (size fr : Int) (rs : Nat → Int) (last : Bool) (s : CS) (t : Int) (ht : t ≠ 4) : Lifts Try.prog 75 #[.pointer (some ⟨x, 0, none⟩), .int .i64 t] (ChkH x size fr rs last s) (ChkH x size fr rs last { s with st := t }) (.returned (ansV 2 0 0 true)) := by
  rintro w F ⟨hb, hF⟩
  have HB := Lib.hid hb
  have HF := Lib.hid hF
  obtain ⟨_, _, _, _, c11, _, _, _, _, fz⟩ := chk_cells hb
  have hx := heap_lt hb
  have hne : x ≠ w.heap.size := by omega
  have hne2 : w.heap.size ≠ x := by omega
  have e1 : (t == 4) = false := by simp [ht]
  clear hb hF ht
  go_enter Try.func75, Try.ntmps75
  go_wp2_with fail
  refine bodyPost_ret (v := _) (by simp [results, Try.results75, go_sem]; rfl) rfl ?_
  refine ⟨rfl, F, ⟨?_, HF.out⟩, ?_, fun _ h => .inl h⟩
  · exact heapAlloc_old ((heapSet_eq _ _ _ _ _ _ _ HB.out).trans (by simp [chkC])) _
  · exact ((Chg.refl F w).set _ _ (.inr ((HF.out x).2 rfl))).more _
theorem chkMoves_thr (x : Nat) (size fr : Int) (rs : Nat → Int) (last : Bool) (s : CS) : Lifts Try.prog 75 #[.pointer (some ⟨x, 0, none⟩), .int .i64 4] (ChkH x size fr rs last s) (ChkH x size fr rs last { s with st := 4 }) (.returned (ansV 3 0 0 true)) := by
  rintro w F ⟨hb, hF⟩
  have HB := Lib.hid hb
  have HF := Lib.hid hF
  obtain ⟨_, _, _, _, c11, _, _, _, _, fz⟩ := chk_cells hb
  have hx := heap_lt hb
  have hne : x ≠ w.heap.size := by omega
  have hne2 : w.heap.size ≠ x := by omega
  clear hb hF
  go_enter Try.func75, Try.ntmps75
  go_wp2_with fail
  refine bodyPost_ret (v := _) (by simp [results, Try.results75, go_sem]; rfl) rfl ?_
  refine ⟨rfl, F, ⟨?_, HF.out⟩, ?_, fun _ h => .inl h⟩
  · exact heapAlloc_old ((heapSet_eq _ _ _ _ _ _ _ HB.out).trans (by simp [chkC])) _
  · exact ((Chg.refl F w).set _ _ (.inr ((HF.out x).2 rfl))).more _
theorem chkFails_any (x : Nat) (size fr : Int) (rs : Nat → Int) (last : Bool) (s : CS) (e : Int) : Lifts Try.prog 73 #[.pointer (some ⟨x, 0, none⟩), .int .i64 e] (ChkH x size fr rs last s) (ChkH x size fr rs last { s with st := 5 }) (.returned (ansV 4 e 0 true)) := by
  rintro w F ⟨hb, hF⟩
  have HB := Lib.hid hb
  have HF := Lib.hid hF
  obtain ⟨_, _, _, _, c11, _, _, _, _, fz⟩ := chk_cells hb
  have hx := heap_lt hb
  have hne : x ≠ w.heap.size := by omega
  have hne2 : w.heap.size ≠ x := by omega
  clear hb hF
  go_enter Try.func73, Try.ntmps73
  go_wp2_with fail
  refine bodyPost_ret (v := _) (by simp [results, Try.results73, go_sem]; rfl) rfl ?_
  refine ⟨rfl, F, ⟨?_, HF.out⟩, ?_, fun _ h => .inl h⟩
  · exact heapAlloc_old ((heapSet_eq _ _ _ _ _ _ _ HB.out).trans (by simp [chkC])) _
  · exact ((Chg.refl F w).set _ _ (.inr ((HF.out x).2 rfl))).more _
theorem chkStart_no (x : Nat) (size fr : Int) (rs : Nat → Int) (last : Bool) (s : CS) (h : s.st ≠ 4) : Looks Try.prog 53 #[.pointer (some ⟨x, 0, none⟩)] (ChkH x size fr rs last s) (.returned (.tuple #[.int .i64 0, .int .i64 0, .bool false])) := by
  rintro w F ⟨hb, _⟩
  obtain ⟨_, _, _, _, c11, _, _, _, _, fz⟩ := chk_cells hb
  have hd : (s.st != 4) = true := by simp [h]
  clear hb
  go_enter Try.func53, Try.ntmps53
  go_wp2_with fail
  refine bodyPost_ret (v := _) (by simp [results, Try.results53, go_sem]; rfl) rfl ?_
  exact ⟨rfl, Below.refl _ _⟩
theorem chkStart_yes (x : Nat) (size fr : Int) (rs : Nat → Int) (last : Bool) (s : CS) (h : s.st = 4) : Looks Try.prog 53 #[.pointer (some ⟨x, 0, none⟩)] (ChkH x size fr rs last s) (.returned (.tuple #[.int .i64 s.start, .int .i64 s.seen, .bool true])) := by
  rintro w F ⟨hb, _⟩
  obtain ⟨_, _, _, _, c11, c12, c13, _, _, fz⟩ := chk_cells hb
  rw [h] at c11
  clear hb
  go_enter Try.func53, Try.ntmps53
  go_wp2_with fail
  go_quiet (fail)
  go_wp2_with fail
  refine bodyPost_ret (v := _) (by simp [results, Try.results53, go_sem]; rfl) rfl ?_
  exact ⟨rfl, below_drewN (Below.refl _ _) _⟩
theorem chkFar_any (x : Nat) (size : Nat) (hs : size ≤ 16) (fr : Int) (hf : 0 ≤ fr) (rs : Nat → Int) (last : Bool) (s : CS) (n : Int) (hn : I64 n) : Looks Try.prog 76 #[.pointer (some ⟨x, 0, none⟩), .int .i64 n] (ChkH x size fr rs last s) (.returned (.bool (farB size fr n))) := by
  rintro w F ⟨hb, _⟩
  obtain ⟨c0, c1, _, _, _, _, _, _, _, fz⟩ := chk_cells hb
  obtain ⟨hn1, hn2⟩ := hn
  clear hb
  by_cases h1 : fr < n
  · have hd : decide (fr < n) = true := by simpa using h1
    have HF : Hid (farB size fr n = decide ((size : Int) < n - fr)) := by show _ = _; unfold farB; rw [hd, Bool.true_and]
    rw [HF.out]
    go_enter Try.func76, Try.ntmps76
    go_wp2_with fail
    go_quiet (fail)
    go_wp2_with fail
    go_ret
    exact ⟨rfl, below_drewN (Below.refl _ _) _⟩
  · have hd : decide (fr < n) = false := by simpa using h1
    have HF : Hid (farB size fr n = false) := by show _ = _; unfold farB; rw [hd, Bool.false_and]
    rw [HF.out]
    go_enter Try.func76, Try.ntmps76
    go_wp2_with fail
    go_quiet (fail)
    go_wp2_with fail
    go_ret
    exact ⟨rfl, below_drewN (Below.refl _ _) _⟩
theorem chkBehind_any (x : Nat) (size fr : Int) (rs : Nat → Int) (last : Bool) (s : CS) (j : Int) (k0 : Nat) (hj : j + 1 = k0) (hk0 : k0 ≤ 8) : Looks Try.prog 74 #[.pointer (some ⟨x, 0, none⟩), .int .i64 j] (ChkH x size fr rs last s) (.returned (.int .i64 (nextW rs k0))) := by
  rintro w F ⟨hb, _⟩
  obtain ⟨_, _, rd, _, _, _, _, _, _, fz⟩ := chk_cells hb
  have RD := Lib.hid rd
  clear hb rd
  obtain rfl : j = (k0 : Int) - 1 := by omega
  go_enter Try.func74, Try.ntmps74
  go_wp2_with fail
  go_loop [1] (fun i => ∃ k : Nat, k ≤ 8 ∧ i = .int .i64 k ∧ Hid (nextW rs k0 = nextW rs k)) (fun i => 8 - (intOf i).toNat)
  case atStart => exact ⟨k0, hk0, by go_num, rfl⟩
  case round =>
    obtain ⟨k, hk, rfl, HK⟩ := hrel
    by_cases hlt : k < 8
    · have ck := RD.out k hlt
      have hk8 : (k : Int) < 8 := by omega
      by_cases hz : rs k = 0
      · have HN : Hid (nextW rs k0 = nextW rs (k + 1)) := HK.out.trans (nextW_zero hlt hz)
        rw [hz] at ck
        clear hz
        go_wp2_with fail
        go_round
        case rel => exact ⟨k + 1, by omega, by go_num, HN.out⟩
        case measure => simp [intOf]; omega
      · have HN : Hid (nextW rs k0 = k) := HK.out.trans (nextW_here hlt hz)
        have e1 : (rs k == 0) = false := by simp [hz]
        generalize rs k = z at *
        clear hz
        go_wp2_with fail
        go_ret
        rw [HN.out]
        exact ⟨rfl, Below.refl _ _⟩
    · obtain rfl : k = 8 := by omega
      have HN : Hid (nextW rs k0 = 8) := HK.out.trans (nextW_end rs)
      go_wp2_with fail
      go_ret
      rw [HN.out]
      exact ⟨rfl, Below.refl _ _⟩
end Go.Proofs.Ytojkeahffabifaa
