/- Layer 3: Peek. -/
import Derived.Test.YtlmnljijpgpmiaaC3b
namespace Go.Proofs.Ytlmnljijpgpmiaa
open Go.RowKit
set_option linter.unusedVariables false
set_option maxHeartbeats 2000000 in
set_option maxRecDepth 100000 in
theorem peek_in (p ring cells : Nat) (l : List Acc) (k i j : Int) (ha : isA ring cells k i j) :
    Looks Try.prog 13 #[.pointer (some ⟨p, 0, none⟩), .agg #[.int .i64 k, .int .i64 i, .int .i64 j]] (MemH p ring cells l) (.returned (.tuple #[.int .i64 (wordOf l k i j), .int .i64 0])) := by
  rintro w F ⟨hv, sv, cv, lv, h1, h2, h3, h4⟩
  have H1 := Lib.hid h1
  have H3 := Lib.hid h3
  have HA := Lib.hid ha
  clear h1 h2 h3 h4 ha
  go_enter Try.func13, Try.ntmps13
  go_wp2_with fail
  have hb0 : Below w.heap.size w (w.alloc (.cells #[.int .i64 k, .int .i64 i, .int .i64 j] 41)) := (Below.refl _ _).alloc (Nat.le_refl _) _
  refine (word_in _ p ring cells (wordOf l) hv sv cv _ (H1.out.calm hb0) k i j HA.out).mono ?_
  rintro e w1 ⟨⟨g, o, rfl, hpl⟩, hb1⟩
  have hb : Hid (Below w.heap.size w w1) := hb0.trans (hb1.mono (by simp))
  have hM := H1.out.calm hb.out
  obtain ⟨hcell, hfz, _⟩ := place_facts hM H3.out HA.out hpl
  generalize hV : wordOf l k i j = v at *
  have HV := Lib.hid hV
  clear hb0 hb1 hM hpl hV
  go_wp2_with fail
  go_ret2
  rw [HV.out]
  exact ⟨rfl, hb.out⟩
end Go.Proofs.Ytlmnljijpgpmiaa
