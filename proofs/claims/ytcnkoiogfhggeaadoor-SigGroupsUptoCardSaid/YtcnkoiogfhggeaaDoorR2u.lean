/- How a list of numbers is read, with its length. -/
import Derived.Test.YtcnkoiogfhggeaaDoorRT
import Derived.Test.YtcnkoiogfhggeaaDoorC2h
namespace Go.Proofs.YtcnkoiogfhggeaaDoor
open Go.ChangeShapes Go.WideShapes Go.Deep Go.RowKit
set_option linter.unusedVariables false
theorem ints_gridR {w : World} {a : Option Addr} {len : Nat} {q : Nat → Nat → Int} (h : Grid w a len 1 q) : ∃ zs, IntsAt w a len zs := by
  refine ⟨(List.range len).map (fun i => q i 0), by simp, h.imp id ?_⟩
  rintro ⟨b, off, e, hb, hc⟩
  refine ⟨b, off, e, hb, fun i hi => ?_⟩
  have h := hc i hi 0 (by omega)
  rw [Nat.mul_one, Nat.add_zero] at h
  rw [h]
  congr 2
  simp [List.getD, hi]
section
variable {H : Type} {enc : TypeId × Value → H} {w : World} {base : Nat} {spare : Nat → Bool} {held : Bool}
theorem open_intsU {r : Reach} {b0 : Nat} {v : Value} {d : DataW H} {p : List MemPlace} (hv : Value.okWide Tryd.prog w r b0 22 v) (h : DataW.Trod enc Tryd.prog w base spare held 22 v d p) :
    ∃ (a : Option Addr) (len cap : Nat) (zs : List Int), v = .slice a len cap ∧ IntsAt w a len zs ∧ len ≤ cap ∧ cap ≤ maxLen ∧ InD d len := by
  obtain ⟨a, len, cap, rfl⟩ := okWide_slice Tryd.underlying22 hv
  obtain ⟨fuel, hf⟩ := h
  obtain ⟨a1, l1, c1, q, e, g, hlc, hcm, _, i1⟩ := open_gridS (n := 6) (sz := 1) (ts := [3]) Tryd.underlying22 (by kernel_rfl) (by kernel_rfl) rfl (by decide) (ints1 Tryd.underlying3) hf
  obtain ⟨zs, hz⟩ := ints_gridR g
  exact ⟨a1, l1, c1, zs, e, hz, hlc, hcm, i1⟩
end
end Go.Proofs.YtcnkoiogfhggeaaDoor
