/- Layer 9: the reference's words, far; its check machine as an object, inside a bigger struct. -/
import Derived.Test.YtojkeahffabifaaS8
import Derived.Test.YtojkeahffabifaaC8d
import Derived.Test.YtojkeahffabifaaM3
namespace Go.Proofs.Ytojkeahffabifaa
open Go.RowKit
set_option linter.unusedVariables false
/-- The reference's check machine stands in the struct's cells from 3 on. -/
structure Off3 (f : Value → Array Value) (size fr : Int) (rs : Nat → Int) (last : Bool) : Prop where
  c0 : ∀ lv, (f lv)[3]? = some (.int .i64 size)
  c1 : ∀ lv, (f lv)[4]? = some (.int .i64 fr)
  rd : ∀ lv k, k < 8 → (f lv)[5 + k]? = some (.int .u64 (rs k))
  c10 : ∀ lv, (f lv)[13]? = some (.bool last)
  c11 : ∀ lv, (f lv)[14]? = some lv
  set : ∀ lv lv', (f lv).setIfInBounds 14 lv' = f lv'
abbrev RChkH (T : TypeId) (f : Value → Array Value) (y : Nat) (L : List Int) : HP := LstH y f T 2 L
/-- What the walk reads of it. -/
structure RChkR (w : World) (y : Nat) (size fr : Int) (rs : Nat → Int) (last : Bool) (lv : Value) : Prop where
  c0 : w.cell? ⟨y, 3, none⟩ = some (.int .i64 size)
  c1 : w.cell? ⟨y, 4, none⟩ = some (.int .i64 fr)
  rd : ∀ k, k < 8 → w.cell? ⟨y, 5 + k, none⟩ = some (.int .u64 (rs k))
  c10 : w.cell? ⟨y, 13, none⟩ = some (.bool last)
  c11 : w.cell? ⟨y, 14, none⟩ = some lv
  fz : ∀ o, w.frozen? ⟨y, o, none⟩ = false
theorem rchk_cells {f : Value → Array Value} {size fr : Int} {rs : Nat → Int} {last : Bool} (hf3 : Off3 f size fr rs last) {w : World} {y : Nat} {lv : Value} {T : TypeId} (h : w.heap[y]? = some (.cells (f lv) T)) : RChkR w y size fr rs last lv where
  c0 := by simp only [World.cell?, h]; exact hf3.c0 lv
  c1 := by simp only [World.cell?, h]; exact hf3.c1 lv
  rd := by intro k hk; simp only [World.cell?, h]; exact hf3.rd lv k hk
  c10 := by simp only [World.cell?, h]; exact hf3.c10 lv
  c11 := by simp only [World.cell?, h]; exact hf3.c11 lv
  fz := fun o => by simp [World.frozen?, h]
theorem rchkFar_any {T : TypeId} {f : Value → Array Value} (y : Nat) (size : Nat) (fr : Int) (hf : 0 ≤ fr) (rs : Nat → Int) (last : Bool) (lv : Value) (n : Int) (hn : I64 n) (w : World) (hf3 : Off3 f size fr rs last) (h : w.heap[y]? = some (.cells (f lv) T)) : Calls Try.prog 84 #[.pointer (some ⟨y, 3, none⟩), .int .i64 n] w fun e w' => e = .returned (.bool (farB size fr n)) ∧ Below w.heap.size w w' := by
  obtain ⟨c0, c1, _, _, _, fz⟩ := rchk_cells hf3 h
  obtain ⟨hn1, hn2⟩ := hn
  clear h
  by_cases h1 : fr < n
  · have hd : decide (fr < n) = true := by simpa using h1
    have HF : Hid (farB size fr n = decide ((size : Int) < n - fr)) := by show _ = _; unfold farB; rw [hd, Bool.true_and]
    rw [HF.out]
    go_enter Try.func84, Try.ntmps84
    go_wp2_with fail
    go_quiet (fail)
    go_wp2_with fail
    go_ret
    exact ⟨rfl, below_drewN (Below.refl _ _) _⟩
  · have hd : decide (fr < n) = false := by simpa using h1
    have HF : Hid (farB size fr n = false) := by show _ = _; unfold farB; rw [hd, Bool.false_and]
    rw [HF.out]
    go_enter Try.func84, Try.ntmps84
    go_wp2_with fail
    go_quiet (fail)
    go_wp2_with fail
    go_ret
    exact ⟨rfl, below_drewN (Below.refl _ _) _⟩
theorem infoIntW : (Try.prog.info? 3).map (fun i => (i.zero, i.size, i.bytes)) = some (some (.int .i64 0), 1, 8) := by kernel_rfl
theorem sig_rd8 {w : World} {b : Nat} {rs : Nat → Int} {T : TypeId} (h : w.heap[b]? = some (.cells #[.int .u64 (rs 0), .int .u64 (rs 1), .int .u64 (rs 2), .int .u64 (rs 3), .int .u64 (rs 4), .int .u64 (rs 5), .int .u64 (rs 6), .int .u64 (rs 7)] T)) : ∀ m, m < 8 → w.cell? ⟨b, m, none⟩ = some (.int .u64 (rs m)) := by
  intro m hm
  match m, hm with
  | 0, _ => simp [World.cell?, h]
  | 1, _ => simp [World.cell?, h]
  | 2, _ => simp [World.cell?, h]
  | 3, _ => simp [World.cell?, h]
  | 4, _ => simp [World.cell?, h]
  | 5, _ => simp [World.cell?, h]
  | 6, _ => simp [World.cell?, h]
  | 7, _ => simp [World.cell?, h]
/-- The list of words. -/
def WordsGot (w : World) (rs : Nat → Int) (e : Ending) (w' : World) : Prop := ∃ v, e = .returned v ∧ w'.ownsRow 0 3 1 v (wordsF rs 0).length ((wordsF rs 0).map fun (k : Nat) => Value.int .i64 k) ∧ Below w.heap.size w w'
set_option maxHeartbeats 1000000 in
theorem words_any (rs : Nat → Int) (w : World) : Calls Try.prog 83 #[(.agg #[.int .u64 (rs 0), .int .u64 (rs 1), .int .u64 (rs 2), .int .u64 (rs 3), .int .u64 (rs 4), .int .u64 (rs 5), .int .u64 (rs 6), .int .u64 (rs 7)])] w (WordsGot w rs) := by
  obtain ⟨i0, hi, hI0, hI1, hI2⟩ := info_parts infoIntW
  have HB0 : Hid (Below w.heap.size w (w.alloc (.cells #[.int .u64 (rs 0), .int .u64 (rs 1), .int .u64 (rs 2), .int .u64 (rs 3), .int .u64 (rs 4), .int .u64 (rs 5), .int .u64 (rs 6), .int .u64 (rs 7)] 42))) := (Below.refl _ _).alloc (Nat.le_refl _) _
  go_enter Try.func83, Try.ntmps83
  go_wp2_with fail
  go_loopw [3, 4] (fun v i wr => ∃ (k n : Nat) (out : List Nat), k ≤ 8 ∧ n ≤ k ∧ i = .int .i64 k ∧ Hid (out.length = n ∧ wordsF rs 0 = out ++ wordsF rs k) ∧ wr.ownsRow (w.heap.size + 1) 3 1 v n (out.map fun (k : Nat) => Value.int .i64 k) ∧ w.heap.size + 1 ≤ wr.heap.size ∧ Hid (wr.heap[w.heap.size]? = some (.cells #[.int .u64 (rs 0), .int .u64 (rs 1), .int .u64 (rs 2), .int .u64 (rs 3), .int .u64 (rs 4), .int .u64 (rs 5), .int .u64 (rs 6), .int .u64 (rs 7)] 42) ∧ Below w.heap.size w wr)) (fun _ i _ => 8 - (intOf i).toNat)
  case atStart => exact ⟨0, 0, [], by omega, by omega, rfl, ⟨rfl, rfl⟩, World.ownsRow_nil _ _ _ _, by simp, heapAlloc _ _, HB0.out⟩
  case round =>
    obtain ⟨k, n, out, hk, hnk, rfl, HW, hown, hsz, HB⟩ := hrel
    have hsl := heap_lt HB.out.1
    by_cases hlt : k < 8
    · have ck := sig_rd8 HB.out.1 k hlt
      have hk8 : (k : Int) < 8 := by omega
      have hk0 : (0 : Int) ≤ k := by omega
      by_cases hz : rs k = 0
      · have HN : Hid (out.length = n ∧ wordsF rs 0 = out ++ wordsF rs (k + 1)) := ⟨HW.out.1, by rw [← wordsF_zero hlt hz]; exact HW.out.2⟩
        rw [hz] at ck
        have HO := Lib.hid hown
        clear hz hown
        go_wp2_with fail
        go_roundw
        case rel => exact ⟨k + 1, n, out, by omega, by omega, by go_num, HN.out, HO.out, hsz, HB.out⟩
        case measure => simp [intOf]; omega
      · have HN : Hid ((out ++ [k]).length = n + 1 ∧ wordsF rs 0 = (out ++ [k]) ++ wordsF rs (k + 1)) := ⟨by simp [HW.out.1], by rw [HW.out.2, wordsF_here hlt hz]; simp⟩
        have e1 : (rs k == 0) = false := by simp [hz]
        have e2 : (rs k != 0) = true := by simp [hz]
        generalize rs k = z at *
        clear hz
        go_wp2_with (at_builtin; refine wpList_append_own_at _ rfl (.tmp 13) (.tmp 15) 22 rfl (w.heap.size + 1) 3 i0 (.int .i64 0) 1 8 Try.underlying22 hi hI0 hI1 hI2 rfl (by decide) _ _ _ rfl (hown.alloc _) ⟨wr.heap.size, 0, none⟩ 1 1 [.int .i64 k] rfl rfl ?c1 ?c2 ?c3 ?c4 ?c5 ?_)
        case c1 => exact cell_one_new _ _ _
        case c2 => intro u hu; simp at hu; subst hu; rfl
        case c3 => unfold maxLen; omega
        case c4 => omega
        case c5 => simp; omega
        · intro v' w2 hown' hgrow _ _
          have hbg := fun j hj => (hown.lt j hj).1
          have hBX : w2.heap[w.heap.size]? = some (.cells #[.int .u64 (rs 0), .int .u64 (rs 1), .int .u64 (rs 2), .int .u64 (rs 3), .int .u64 (rs 4), .int .u64 (rs 5), .int .u64 (rs 6), .int .u64 (rs 7)] 42) := (hgrow.block _ (by simp; omega) (fun e => by have := hbg _ e.symm; omega)).trans (heapAlloc_old HB.out.1 _)
          have hb : Below w.heap.size wr w2 := ((Below.refl _ _).alloc (by omega) _).grown hgrow (by simp; omega) (fun j hj => by have := hbg j hj; omega)
          have HO2 : Hid (w2.ownsRow (w.heap.size + 1) 3 1 v' (n + 1) ((out ++ [k]).map fun (k : Nat) => Value.int .i64 k)) := by
            show World.ownsRow _ _ _ _ _ _ _
            rw [List.map_append]
            exact hown'
          have hz2 := hb.size
          have HB2 : Hid (w2.heap[w.heap.size]? = some (.cells #[.int .u64 (rs 0), .int .u64 (rs 1), .int .u64 (rs 2), .int .u64 (rs 3), .int .u64 (rs 4), .int .u64 (rs 5), .int .u64 (rs 6), .int .u64 (rs 7)] 42) ∧ Below w.heap.size w w2) := ⟨hBX, HB.out.2.trans hb⟩
          clear hown' hgrow hown hb hBX hbg ck
          go_wp2_with fail
          go_roundw
          case rel => exact ⟨k + 1, n + 1, out ++ [k], by omega, by omega, by go_num, HN.out, HO2.out, by omega, HB2.out⟩
          case measure => simp [intOf]; omega
    · obtain rfl : k = 8 := by omega
      have HN : Hid (wordsF rs 0 = out) := by have h := HW.out.2; rw [wordsF_end, List.append_nil] at h; exact h
      have HO := Lib.hid hown
      clear hown
      go_wp2_with fail
      go_ret
      refine ⟨_, rfl, ?_, HB.out.2⟩
      rw [HN.out, HW.out.1]
      exact own_base HO.out (fun _ _ => Nat.zero_le _)
end Go.Proofs.Ytojkeahffabifaa
