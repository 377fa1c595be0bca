/- How the arguments of the laws over signatures are read; the table that the row lists. -/
import Derived.Test.YtcnkoiogfhggeaaDoorR1
import Derived.Test.YtcnkoiogfhggeaaDoorC2p
import Derived.Test.YtcnkoiogfhggeaaDoorCards
import Derived.Lib.LaidTab
namespace Go.Proofs.YtcnkoiogfhggeaaDoor
open Go.ChangeShapes Go.WideShapes Go.ChangeAt Go.RowKit
theorem gTab : Tryd.prog.globalNamed "math/bits.deBruijn64tab" = some 0 := by kernel_rfl
theorem gTabType : (Tryd.prog.globals[0]?).map (·.type) = some 61 := by kernel_rfl
theorem cellsTab : Tryd.prog.cellsOf 61 = 64 := by kernel_rfl
theorem cellsU8 : Tryd.prog.cellsOf 5 = 1 := by kernel_rfl
theorem cellsInt : Tryd.prog.cellsOf 3 = 1 := by kernel_rfl
theorem tab_of {W : World} (h : laidMetH Tryd.prog [("math/bits.deBruijn64tab", Rows.laid_math_bits_deBruijn64tab)] W) : Tab W := by
  have h1 : Lib.TabIs Tryd.prog W "math/bits.deBruijn64tab" .u8 (Lib.deBruijn64tab.map Int.ofNat) :=
    Lib.tabIs_of_head (rest := []) gTab gTabType Tryd.underlying61 Tryd.underlying5 cellsU8 cellsTab h
  intro j hj
  have hl : Lib.deBruijn64tab.length = 64 := by kernel_rfl
  have h2 := h1.cell gTab j (by rw [List.length_map, hl]; exact hj)
  rw [h2]
  congr 2
  simp only [List.getD_eq_getElem?_getD, List.getElem?_map, List.getElem?_eq_getElem (hl.symm ▸ hj : j < Lib.deBruijn64tab.length), Option.map_some, Option.getD_some]
  rfl
theorem flatSig : flat Tryd.prog 4 25 = some (List.replicate 8 23) := by kernel_rfl
section
variable {H : Type} {enc : TypeId × Value → H} {w : World} {base : Nat} {spare : Nat → Bool} {held : Bool}
theorem open_sig {r : Reach} {b0 : Nat} {v : Value} {d : DataW H} {p : List MemPlace} (hv : Value.okWide Tryd.prog w r b0 25 v) (h : DataW.Trod enc Tryd.prog w base spare held 25 v d p) :
    ∃ s : Nat → Int, v = (.agg #[.int .u64 (s 0), .int .u64 (s 1), .int .u64 (s 2), .int .u64 (s 3), .int .u64 (s 4), .int .u64 (s 5), .int .u64 (s 6), .int .u64 (s 7)]) ∧ Wds s := by
  obtain ⟨l, rfl, hl, hx⟩ := open_agg (Or.inr ⟨8, 23, Tryd.underlying25⟩) flatSig hv h
  have hl' : l.length = 8 := by simpa using hl
  have each : ∀ i, i < 8 → ∃ n, l[i]? = some (.int .u64 n) ∧ 0 ≤ n ∧ n < 18446744073709551616 := by
    intro i hi
    obtain ⟨x, hx1⟩ : ∃ x, l[i]? = some x := ⟨l[i], List.getElem?_eq_getElem (by omega)⟩
    obtain ⟨n, rfl, hw⟩ := leaf_int Tryd.underlying23 (hx i _ x (by rw [List.getElem?_replicate, if_pos hi]) hx1)
    have hw' : 0 ≤ n ∧ n ≤ 18446744073709551615 := by simpa [Lit.wf, IntKind.min, IntKind.max, IntKind.signed, IntKind.bits] using hw
    exact ⟨n, hx1, hw'.1, by omega⟩
  obtain ⟨s, hs, hw⟩ : ∃ s : Nat → Int, Wds s ∧ ∀ i, i < 8 → l[i]? = some (.int .u64 (s i)) := by
    refine ⟨fun i => if h : i < 8 then (each i h).choose else 0, fun i => ?_, fun i hi => ?_⟩
    · by_cases hi : i < 8
      · simp only [dif_pos hi]; exact (each i hi).choose_spec.2
      · simp only [dif_neg hi]; exact ⟨by omega, by omega⟩
    · simp only [dif_pos hi]; exact (each i hi).choose_spec.1
  refine ⟨s, ?_, hs⟩
  have e0 := hw 0 (by omega)
  have e1 := hw 1 (by omega)
  have e2 := hw 2 (by omega)
  have e3 := hw 3 (by omega)
  have e4 := hw 4 (by omega)
  have e5 := hw 5 (by omega)
  have e6 := hw 6 (by omega)
  have e7 := hw 7 (by omega)
  obtain ⟨x0, x1, x2, x3, x4, x5, x6, x7, rfl⟩ : ∃ x0 x1 x2 x3 x4 x5 x6 x7, l = [x0, x1, x2, x3, x4, x5, x6, x7] := by
    match l, hl' with
    | [x0, x1, x2, x3, x4, x5, x6, x7], _ => exact ⟨_, _, _, _, _, _, _, _, rfl⟩
  rw [Option.some.inj e0, Option.some.inj e1, Option.some.inj e2, Option.some.inj e3, Option.some.inj e4, Option.some.inj e5, Option.some.inj e6, Option.some.inj e7]
theorem open_intsAt {v : Value} {t : TypeId} {d : DataW H} {p : List MemPlace} {r : Reach} {b0 : Nat} (ht : Tryd.prog.underlying t = some (.slice 3)) (hv : Value.okWide Tryd.prog w r b0 t v) (h : DataW.Trod enc Tryd.prog w base spare held t v d p) :
    ∃ a len cap zs, v = .slice a len cap ∧ IntsAt w a len zs ∧ len ≤ cap ∧ cap ≤ maxLen ∧ (∀ n ∈ zs, (Lit.int .i64 n).wf = true) := by
  obtain ⟨a, len, cap, rfl⟩ := okWide_slice ht hv
  obtain ⟨fuel, hf⟩ := h
  rcases open_ints ht Tryd.underlying3 cellsInt hf with ⟨he, _⟩ | ⟨a', len', cap', zs, he, _, hlc, hcm, hzl, _, hc, hw⟩
  · simp only [Value.cells, List.cons.injEq, and_true, Value.slice.injEq] at he
    obtain ⟨rfl, rfl, rfl⟩ := he
    exact ⟨none, 0, 0, [], rfl, ⟨rfl, Or.inl rfl⟩, Nat.le_refl _, Nat.zero_le _, fun n hn => by cases hn⟩
  · simp only [Value.cells, List.cons.injEq, and_true, Value.slice.injEq] at he
    obtain ⟨rfl, rfl, rfl⟩ := he
    have hge : len ≤ zs.length := by rw [hzl]; split <;> omega
    refine ⟨some a', len, cap, zs.take len, rfl, ⟨by rw [List.length_take]; omega, ?_⟩, hlc, hcm, fun n hn => hw n (List.mem_of_mem_take hn)⟩
    rcases Nat.eq_zero_or_pos len with h0 | h0
    · exact Or.inl h0
    · right
      have h1 := hc 0 (by omega)
      obtain ⟨b, off, spot⟩ := a'
      have hs : spot = none := by
        cases spot with
        | none => rfl
        | some k =>
          exfalso
          unfold World.cell? at h1
          split at h1
          · simp [Addr.add] at h1
          · cases h1
      subst hs
      refine ⟨b, off, rfl, World.block_lt_of_cell? w _ h1, ?_⟩
      intro i hi
      have h2 := hc i (by omega)
      have e : (Addr.mk b off none).add i = ⟨b, off + i, none⟩ := by
        unfold Addr.add
        split <;> simp_all
      rw [e] at h2
      rw [h2]
      congr 2
      simp only [List.getD_eq_getElem?_getD, List.getElem?_take, if_pos hi]
end
end Go.Proofs.YtcnkoiogfhggeaaDoor
