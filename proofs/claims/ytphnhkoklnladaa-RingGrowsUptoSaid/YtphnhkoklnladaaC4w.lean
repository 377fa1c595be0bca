/- Layer 4: the reference's Sig and Entries. -/
import Derived.Test.YtphnhkoklnladaaC4v
namespace Go.Proofs.Ytphnhkoklnladaa
open Go.RowKit Go.Shelf
set_option linter.unusedVariables false
def upR (j : Nat) (f : Nat → Int) : Nat → Int := fun k => if k < j then f k else 0
def noR : Nat → Int := fun _ => 0
theorem eight_facts {w : World} {b : Nat} {s : Nat → Int} {T : TypeId} (h : w.heap[b]? = some (.cells #[.int .u64 (s 0), .int .u64 (s 1), .int .u64 (s 2), .int .u64 (s 3), .int .u64 (s 4), .int .u64 (s 5), .int .u64 (s 6), .int .u64 (s 7)] T)) : w.cell? ⟨b, 0, none⟩ = some (.int .u64 (s 0)) ∧ w.cell? ⟨b, 1, none⟩ = some (.int .u64 (s 1)) ∧ w.cell? ⟨b, 2, none⟩ = some (.int .u64 (s 2)) ∧ w.cell? ⟨b, 3, none⟩ = some (.int .u64 (s 3)) ∧ w.cell? ⟨b, 4, none⟩ = some (.int .u64 (s 4)) ∧ w.cell? ⟨b, 5, none⟩ = some (.int .u64 (s 5)) ∧ w.cell? ⟨b, 6, none⟩ = some (.int .u64 (s 6)) ∧ w.cell? ⟨b, 7, none⟩ = some (.int .u64 (s 7)) ∧ ∀ o, w.frozen? ⟨b, o, none⟩ = false :=
  ⟨by simp [World.cell?, h], by simp [World.cell?, h], by simp [World.cell?, h], by simp [World.cell?, h], by simp [World.cell?, h], by simp [World.cell?, h], by simp [World.cell?, h], by simp [World.cell?, h], fun o => by simp [World.frozen?, h]⟩
theorem two_0 (w : World) (o1 o2 : Obj) : ((w.alloc o1).alloc o2).heap[w.heap.size]? = some o1 := by
  show ((w.heap.push o1).push o2)[w.heap.size]? = _
  simp only [Array.getElem?_push, Array.size_push]
  rw [if_neg (by omega), if_pos trivial]
theorem two_1 (w : World) (o1 o2 : Obj) : ((w.alloc o1).alloc o2).heap[w.heap.size + 1]? = some o2 := by
  show ((w.heap.push o1).push o2)[w.heap.size + 1]? = _
  simp only [Array.getElem?_push, Array.size_push]
  rw [if_pos trivial]
theorem eight_below {B : Nat} {w0 w : World} (h : Below B w0 w) (b : Nat) (hb : B ≤ b) (v0 v1 v2 v3 v4 v5 v6 v7 : Value) : Below B w0 ((((((((w.setCell ⟨b, 0, none⟩ v0).setCell ⟨b, 1, none⟩ v1).setCell ⟨b, 2, none⟩ v2).setCell ⟨b, 3, none⟩ v3).setCell ⟨b, 4, none⟩ v4).setCell ⟨b, 5, none⟩ v5).setCell ⟨b, 6, none⟩ v6).setCell ⟨b, 7, none⟩ v7) :=
  (((((((h.setCell hb _).setCell hb _).setCell hb _).setCell hb _).setCell hb _).setCell hb _).setCell hb _).setCell hb _
/-- The word's box of Sig, and the result's. -/
abbrev SB (w wr : World) (f : Nat → Int) : Prop := wr.heap[w.heap.size + 1]? = some (.cells #[.int .u64 (f 0), .int .u64 (f 1), .int .u64 (f 2), .int .u64 (f 3), .int .u64 (f 4), .int .u64 (f 5), .int .u64 (f 6), .int .u64 (f 7)] 37) ∧ wr.heap[w.heap.size]? = some (.cells #[.int .u64 (noR 0), .int .u64 (noR 1), .int .u64 (noR 2), .int .u64 (noR 3), .int .u64 (noR 4), .int .u64 (noR 5), .int .u64 (noR 6), .int .u64 (noR 7)] 37) ∧ Below w.heap.size w wr
theorem SB.calm {w wr wu : World} {f : Nat → Int} (h : SB w wr f) (hb : Below wr.heap.size wr wu) : SB w wu f :=
  ⟨(hb.block _ (Array.getElem?_eq_some_iff.1 h.1).1).trans h.1, (hb.block _ (Array.getElem?_eq_some_iff.1 h.2.1).1).trans h.2.1, h.2.2.trans (hb.mono h.2.2.size)⟩
theorem SB.word {w wr : World} {f : Nat → Int} {j : Nat} (h : SB w wr (upR j f)) (hj : j < 8) : SB w (wr.setCell ⟨w.heap.size + 1, j, none⟩ (.int .u64 (f j))) (upR (j + 1) f) := by
  refine ⟨(heapSet_eq _ _ _ _ _ _ _ h.1).trans ?_, (heapSet_ne _ _ _ _ (by show w.heap.size ≠ w.heap.size + 1; omega)).trans h.2.1, h.2.2.setCell (p := ⟨w.heap.size + 1, j, none⟩) (Nat.le_succ _) _⟩
  match j, hj with
  | 0, _ => rfl
  | 1, _ => rfl
  | 2, _ => rfl
  | 3, _ => rfl
  | 4, _ => rfl
  | 5, _ => rfl
  | 6, _ => rfl
  | 7, _ => rfl
theorem SB.at {w wr : World} {f : Nat → Int} {j : Nat} (h : SB w wr f) (hj : j < 8) : wr.cell? ⟨w.heap.size + 1, j, none⟩ = some (.int .u64 (f j)) ∧ ∀ o, wr.frozen? ⟨w.heap.size + 1, o, none⟩ = false := by
  obtain ⟨z0, z1, z2, z3, z4, z5, z6, z7, zz⟩ := eight_facts h.1
  refine ⟨?_, zz⟩
  match j, hj with
  | 0, _ => exact z0
  | 1, _ => exact z1
  | 2, _ => exact z2
  | 3, _ => exact z3
  | 4, _ => exact z4
  | 5, _ => exact z5
  | 6, _ => exact z6
  | 7, _ => exact z7
theorem refSig_any (r ring cells : Nat) (l : List Acc) (hlen : l.length ≤ 100000000000) (s : Int) : Looks Try.prog 40 #[.pointer (some ⟨r, 0, none⟩), .int .i64 s] (RMemH r ring cells l) (.returned (.agg #[.int .u64 (sgR l ring s 0), .int .u64 (sgR l ring s 1), .int .u64 (sgR l ring s 2), .int .u64 (sgR l ring s 3), .int .u64 (sgR l ring s 4), .int .u64 (sgR l ring s 5), .int .u64 (sgR l ring s 6), .int .u64 (sgR l ring s 7)])) := by
  rintro w F hO
  have HP := Lib.hid (fun w1 k j (hb : Below w.heap.size w w1) => rword_any r ring cells l hlen 3 k j w1 F ((RMemH.good _ _ _ _).calm hO hb))
  have HS := Lib.hid (fun w => refSlot_any s ring w)
  obtain ⟨q1, qz, ql⟩ := rm_cells hO
  clear hO
  go_enter Try.func40, Try.ntmps40
  go_wp2_with fail
  refine (HS.out _).mono ?_; rintro e w' ⟨rfl, rfl⟩
  go_wp2_with fail
  go_loopw [7] (fun i wr => ∃ j : Nat, j ≤ 8 ∧ i = .int .i64 j ∧ Hid (SB w wr (upR j (sgR l ring s)))) (fun i _ => 8 - (intOf i).toNat)
  case atStart => exact ⟨0, by omega, rfl, two_1 w _ _, two_0 w _ _, ((Below.refl _ _).alloc (Nat.le_refl _) _).alloc (by simp) _⟩
  case round =>
    obtain ⟨j, hj, rfl, HB⟩ := hrel
    by_cases hj8 : j < 8
    · have hji : (j : Int) < 8 := by omega
      go_wp2_with fail
      refine (HP.out _ _ _ HB.out.2.2).mono ?_; rintro e w5 ⟨rfl, hb⟩
      have HB5 := Lib.hid (HB.out.calm hb)
      clear hb
      obtain ⟨hcj, hfj⟩ := HB5.out.at hj8
      have HN := Lib.hid (HB5.out.word hj8)
      go_wp2_with fail
      go_roundw
      case rel => exact ⟨j + 1, by omega, by go_num, HN.out⟩
      case measure => simp [intOf]; omega
    · obtain rfl : j = 8 := by omega
      obtain ⟨c0, c1, c2, c3, c4, c5, c6, c7, cz⟩ := eight_facts (s := sgR l ring s) HB.out.1
      obtain ⟨d0, d1, d2, d3, d4, d5, d6, d7, dz⟩ := eight_facts HB.out.2.1
      have HBB := Lib.hid HB.out.2.2
      go_wp2_with fail
      refine bodyPost_ret (v := _) (by simp [results, Try.results40, go_sem, d0, d1, d2, d3, d4, d5, d6, d7]) rfl ⟨rfl, ?_⟩
      exact eight_below HBB.out _ (Nat.le_refl _) _ _ _ _ _ _ _ _
end Go.Proofs.Ytphnhkoklnladaa
