/- Contracts of layer 2: Of, by the program and by the reference. -/
import Derived.Test.YtojkeahffabifaaC2g
import Derived.StillTailTactics
namespace Go.Proofs.Ytojkeahffabifaa
open Go.RowKit
set_option linter.unusedVariables false
theorem heap_setCell_ne (w : World) (a : Addr) (v : Value) (k : Nat) (h : k ≠ a.block) : (w.setCell a v).heap[k]? = w.heap[k]? := by
  simp only [World.setCell, Array.getElem?_modify]
  rw [if_neg (by omega)]
theorem heap_setCell_eq (w : World) (b i : Nat) (v : Value) (cs : Array Value) (T : TypeId) (fr : Nat × Nat) (h : w.heap[b]? = some (.cells cs T fr)) : (w.setCell ⟨b, i, none⟩ v).heap[b]? = some (.cells (cs.setIfInBounds i v) T fr) := by
  simp [World.setCell, Array.getElem?_modify, h]
/-- A whole signature is stored, cell by cell. -/
theorem set8 {w : World} {b : Nat} {x0 x1 x2 x3 x4 x5 x6 x7 : Value} {T : TypeId} (h : w.heap[b]? = some (.cells #[x0, x1, x2, x3, x4, x5, x6, x7] T)) (v0 v1 v2 v3 v4 v5 v6 v7 : Value) :
    ((((((((w.setCell ⟨b, 0, none⟩ v0).setCell ⟨b, 1, none⟩ v1).setCell ⟨b, 2, none⟩ v2).setCell ⟨b, 3, none⟩ v3).setCell ⟨b, 4, none⟩ v4).setCell ⟨b, 5, none⟩ v5).setCell ⟨b, 6, none⟩ v6).setCell ⟨b, 7, none⟩ v7).heap[b]? = some (.cells #[v0, v1, v2, v3, v4, v5, v6, v7] T) := by
  have h0 : (w.setCell ⟨b, 0, none⟩ v0).heap[b]? = some (.cells #[v0, x1, x2, x3, x4, x5, x6, x7] T) := (heap_setCell_eq _ b 0 v0 _ T _ h).trans (by simp)
  have h1 : ((w.setCell ⟨b, 0, none⟩ v0).setCell ⟨b, 1, none⟩ v1).heap[b]? = some (.cells #[v0, v1, x2, x3, x4, x5, x6, x7] T) := (heap_setCell_eq _ b 1 v1 _ T _ h0).trans (by simp)
  have h2 : (((w.setCell ⟨b, 0, none⟩ v0).setCell ⟨b, 1, none⟩ v1).setCell ⟨b, 2, none⟩ v2).heap[b]? = some (.cells #[v0, v1, v2, x3, x4, x5, x6, x7] T) := (heap_setCell_eq _ b 2 v2 _ T _ h1).trans (by simp)
  have h3 : ((((w.setCell ⟨b, 0, none⟩ v0).setCell ⟨b, 1, none⟩ v1).setCell ⟨b, 2, none⟩ v2).setCell ⟨b, 3, none⟩ v3).heap[b]? = some (.cells #[v0, v1, v2, v3, x4, x5, x6, x7] T) := (heap_setCell_eq _ b 3 v3 _ T _ h2).trans (by simp)
  have h4 : (((((w.setCell ⟨b, 0, none⟩ v0).setCell ⟨b, 1, none⟩ v1).setCell ⟨b, 2, none⟩ v2).setCell ⟨b, 3, none⟩ v3).setCell ⟨b, 4, none⟩ v4).heap[b]? = some (.cells #[v0, v1, v2, v3, v4, x5, x6, x7] T) := (heap_setCell_eq _ b 4 v4 _ T _ h3).trans (by simp)
  have h5 : ((((((w.setCell ⟨b, 0, none⟩ v0).setCell ⟨b, 1, none⟩ v1).setCell ⟨b, 2, none⟩ v2).setCell ⟨b, 3, none⟩ v3).setCell ⟨b, 4, none⟩ v4).setCell ⟨b, 5, none⟩ v5).heap[b]? = some (.cells #[v0, v1, v2, v3, v4, v5, x6, x7] T) := (heap_setCell_eq _ b 5 v5 _ T _ h4).trans (by simp)
  have h6 : (((((((w.setCell ⟨b, 0, none⟩ v0).setCell ⟨b, 1, none⟩ v1).setCell ⟨b, 2, none⟩ v2).setCell ⟨b, 3, none⟩ v3).setCell ⟨b, 4, none⟩ v4).setCell ⟨b, 5, none⟩ v5).setCell ⟨b, 6, none⟩ v6).heap[b]? = some (.cells #[v0, v1, v2, v3, v4, v5, v6, x7] T) := (heap_setCell_eq _ b 6 v6 _ T _ h5).trans (by simp)
  have h7 : ((((((((w.setCell ⟨b, 0, none⟩ v0).setCell ⟨b, 1, none⟩ v1).setCell ⟨b, 2, none⟩ v2).setCell ⟨b, 3, none⟩ v3).setCell ⟨b, 4, none⟩ v4).setCell ⟨b, 5, none⟩ v5).setCell ⟨b, 6, none⟩ v6).setCell ⟨b, 7, none⟩ v7).heap[b]? = some (.cells #[v0, v1, v2, v3, v4, v5, v6, v7] T) := (heap_setCell_eq _ b 7 v7 _ T _ h6).trans (by simp)
  exact h7
theorem set8_ne (w : World) (b k : Nat) (hk : k ≠ b) (v0 v1 v2 v3 v4 v5 v6 v7 : Value) : ((((((((w.setCell ⟨b, 0, none⟩ v0).setCell ⟨b, 1, none⟩ v1).setCell ⟨b, 2, none⟩ v2).setCell ⟨b, 3, none⟩ v3).setCell ⟨b, 4, none⟩ v4).setCell ⟨b, 5, none⟩ v5).setCell ⟨b, 6, none⟩ v6).setCell ⟨b, 7, none⟩ v7).heap[k]? = w.heap[k]? := by
  rw [heap_setCell_ne _ _ _ _ hk, heap_setCell_ne _ _ _ _ hk, heap_setCell_ne _ _ _ _ hk, heap_setCell_ne _ _ _ _ hk, heap_setCell_ne _ _ _ _ hk, heap_setCell_ne _ _ _ _ hk, heap_setCell_ne _ _ _ _ hk, heap_setCell_ne _ _ _ _ hk]
theorem set8_below {B : Nat} {w0 w : World} (h : Below B w0 w) (b : Nat) (hb : B ≤ b) (v0 v1 v2 v3 v4 v5 v6 v7 : Value) : Below B w0 ((((((((w.setCell ⟨b, 0, none⟩ v0).setCell ⟨b, 1, none⟩ v1).setCell ⟨b, 2, none⟩ v2).setCell ⟨b, 3, none⟩ v3).setCell ⟨b, 4, none⟩ v4).setCell ⟨b, 5, none⟩ v5).setCell ⟨b, 6, none⟩ v6).setCell ⟨b, 7, none⟩ v7) :=
  (((((((h.setCell hb _).setCell hb _).setCell hb _).setCell hb _).setCell hb _).setCell hb _).setCell hb _).setCell hb _
theorem set8_size (w : World) (b : Nat) (v0 v1 v2 v3 v4 v5 v6 v7 : Value) : ((((((((w.setCell ⟨b, 0, none⟩ v0).setCell ⟨b, 1, none⟩ v1).setCell ⟨b, 2, none⟩ v2).setCell ⟨b, 3, none⟩ v3).setCell ⟨b, 4, none⟩ v4).setCell ⟨b, 5, none⟩ v5).setCell ⟨b, 6, none⟩ v6).setCell ⟨b, 7, none⟩ v7).heap.size = w.heap.size := by simp [World.setCell]
/-- An argument that is a slice of ints. -/
def IntsAt (w : World) (a : Option Addr) (len : Nat) (zs : List Int) : Prop :=
  zs.length = len ∧ (len = 0 ∨ ∃ b off, a = some ⟨b, off, none⟩ ∧ b < w.heap.size ∧ ∀ i, i < len → w.cell? ⟨b, off + i, none⟩ = some (.int .i64 (zs.getD i 0)))
noncomputable def ofS (zs : List Int) : Nat → Int := zs.foldl withS noS
theorem foldl_wds : ∀ (zs : List Int) (s : Nat → Int), Wds s → Wds (zs.foldl withS s)
  | [], s, h => h
  | z :: r, s, h => foldl_wds r _ (withS_wds h z)
theorem ofS_wds (zs : List Int) : Wds (ofS zs) := foldl_wds zs noS noS_wds
theorem ofS_succ (zs : List Int) (k : Nat) (h : k < zs.length) : ofS (zs.take (k + 1)) = withS (ofS (zs.take k)) (zs.getD k 0) := by
  unfold ofS
  rw [List.take_succ_eq_append_getElem h, List.foldl_append]
  simp [List.getD, h]
set_option maxRecDepth 100000 in
set_option maxHeartbeats 1000000 in
theorem refOf_any (a : Option Addr) (len cap : Nat) (zs : List Int) (w : World) (hz : IntsAt w a len zs) (hl : len ≤ 9223372036854775807) :
    Calls Try.prog 10 #[.slice a len cap] w fun e w' => e = .returned (.agg #[.int .u64 (ofS zs 0), .int .u64 (ofS zs 1), .int .u64 (ofS zs 2), .int .u64 (ofS zs 3), .int .u64 (ofS zs 4), .int .u64 (ofS zs 5), .int .u64 (ofS zs 6), .int .u64 (ofS zs 7)]) ∧ Below w.heap.size w w' := by
  obtain ⟨hlen, hrow⟩ := hz
  have HL := Lib.hid hlen
  clear hlen
  have HROW := Lib.hid hrow
  clear hrow
  go_enter Try.func10, Try.ntmps10
  go_wp2_with fail
  go_loopw [4] (fun i wr => ∃ k : Nat, k ≤ len ∧ i = .int .i64 k ∧ w.heap.size + 2 ≤ wr.heap.size ∧ Hid (wr.heap[w.heap.size + 1]? = some (.cells #[.int .u64 (ofS (zs.take k) 0), .int .u64 (ofS (zs.take k) 1), .int .u64 (ofS (zs.take k) 2), .int .u64 (ofS (zs.take k) 3), .int .u64 (ofS (zs.take k) 4), .int .u64 (ofS (zs.take k) 5), .int .u64 (ofS (zs.take k) 6), .int .u64 (ofS (zs.take k) 7)] 42) ∧ wr.heap[w.heap.size]? = some (.cells #[.int .u64 (noS 0), .int .u64 (noS 1), .int .u64 (noS 2), .int .u64 (noS 3), .int .u64 (noS 4), .int .u64 (noS 5), .int .u64 (noS 6), .int .u64 (noS 7)] 42) ∧ Below w.heap.size w wr)) (fun i _ => len - (intOf i).toNat)
  case atStart =>
    refine ⟨0, by omega, rfl, by simp, ⟨?_, ?_, ?_⟩⟩
    · exact heap2_1 w _ _
    · exact heap2_0 w _ _
    · exact ((Below.refl _ _).alloc (Nat.le_refl _) _).alloc (by simp) _
  case round =>
    obtain ⟨k, hk, rfl, hsz, HH⟩ := hrel
    obtain ⟨h1, h0, hb⟩ := HH.out
    obtain ⟨c0, c1, c2, c3, c4, c5, c6, c7, fz⟩ := blk_facts h1
    by_cases hlt : k < len
    · obtain ⟨b, off, rfl, hbw, hcell⟩ := HROW.out.resolve_left (by omega)
      have hx := (hb.cell (p := ⟨b, off + k, none⟩) hbw).trans (hcell k hlt)
      have HT := Lib.hid (ofS_succ zs k (by rw [HL.out]; exact hlt))
      have HW := Lib.hid (ofS_wds (zs.take k))
      clear hcell hb h1 h0
      generalize zs.getD k 0 = z at *
      generalize ofS (zs.take k) = t at *
      go_wp2_with fail
      go_still_tail 5, (by kernel_rfl)
      change wpList _ _ _ _ _ wr.drew
      go_wp2_with fail
      refine (refWith_any t HW.out z _).mono ?_; rintro e w1 ⟨rfl, hb1'⟩
      have hb1 : Below wr.heap.size wr w1 := ⟨hb1'.os, hb1'.tape, hb1'.output, hb1'.size, hb1'.block⟩
      have HB1 := Lib.hid hb1
      obtain ⟨d0, d1, d2, d3, d4, d5, d6, d7, gz⟩ := blk_facts ((hb1.block (w.heap.size + 1) (by omega)).trans HH.out.1)
      clear hb1 hb1'
      go_wp2_with fail
      go_roundw
      case rel =>
        refine ⟨k + 1, by omega, by go_num, ?_, ⟨?_, ?_, ?_⟩⟩
        · have := HB1.out.size
          rw [set8_size]; omega
        · rw [HT.out]
          exact set8 ((HB1.out.block (w.heap.size + 1) (by omega)).trans HH.out.1) _ _ _ _ _ _ _ _
        · rw [set8_ne _ _ _ (by omega)]
          exact (HB1.out.block w.heap.size (by omega)).trans HH.out.2.1
        · exact set8_below (HH.out.2.2.trans (HB1.out.mono (by omega))) _ (by omega) _ _ _ _ _ _ _ _
      case measure => simp [intOf]; omega
    · obtain ⟨d0, d1, d2, d3, d4, d5, d6, d7, gz⟩ := blk_facts h0
      obtain rfl : k = len := by omega
      have HT : Hid (zs.take k = zs) := by show _ = _; rw [← HL.out]; exact List.take_length
      have HB := Lib.hid hb
      clear hb h0 h1
      rw [HT.out] at c0 c1 c2 c3 c4 c5 c6 c7
      go_wp2_with fail
      refine bodyPost_ret (v := _) (by simp [results, Try.results10, go_sem, d0, d1, d2, d3, d4, d5, d6, d7]) rfl ⟨rfl, ?_⟩
      exact set8_below HB.out _ (Nat.le_refl _) _ _ _ _ _ _ _ _
end Go.Proofs.Ytojkeahffabifaa
