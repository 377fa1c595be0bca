/- How a list of signatures is read, with its length. -/
import Derived.Test.YtcnkoiogfhggeaaDoorRT
import Derived.Test.YtcnkoiogfhggeaaDoorR2
import Derived.Test.YtcnkoiogfhggeaaDoorC2t
import Derived.SizedLaws
namespace Go.Proofs.YtcnkoiogfhggeaaDoor
open Go.ChangeShapes Go.WideShapes Go.Deep Go.RowKit
set_option linter.unusedVariables false
section
variable {H : Type} {P : Program} {enc : TypeId × Value → H} {w : World} {base : Nat} {spare : Nat → Bool} {held : Bool}
/-- As open_gridS, of whatever kind of number. -/
theorem open_gridK (kd : IntKind) (hk0 : (Lit.int kd 0).wf = true) {n sz : Nat} {t e : TypeId} {ts : List TypeId} {v : Value} {fuel : Nat} {y : DataW H × List MemPlace} (ht : P.underlying t = some (.slice e)) (hfl : flat P n e = some ts)
    (hC : P.cellsOf e = sz) (hts : ts.length = sz) (hsz : 0 < sz) (hint : ∀ u ∈ ts, P.underlying u = some (.int kd)) (hf : DataW.trod enc P w base spare held fuel t [v] = some y) :
    ∃ (a : Option Addr) (len cap : Nat) (q : Nat → Nat → Int), v = .slice a len cap ∧ (len = 0 ∨ ∃ b off, a = some ⟨b, off, none⟩ ∧ b < w.heap.size ∧ ∀ i, i < len → ∀ j, j < sz → w.cell? ⟨b, off + i * sz + j, none⟩ = some (.int kd (q i j))) ∧ len ≤ cap ∧ cap ≤ maxLen ∧ (∀ i j, (Lit.int kd (q i j)).wf = true) ∧ InD y.1 len := by
  rcases open_slice ht hf with ⟨he, hy⟩ | ⟨a', len, cap, m, n', D, Pl, he, _, hlc, hcm, hm, hy, hel⟩
  · simp only [List.cons.injEq, and_true] at he
    subst he
    exact ⟨none, 0, 0, fun _ _ => 0, rfl, .inl rfl, Nat.le_refl _, Nat.zero_le _, fun _ _ => hk0, .zero _⟩
  · simp only [List.cons.injEq, and_true] at he
    subst he
    have hin : InD y.1 len := by
      rw [hy]
      have := InD.slice ((List.range len).map D) ((List.range (m - len)).map fun j => D (len + j))
      simpa using this
    have hge : len ≤ m := by rw [hm]; split <;> omega
    have key : ∀ i, i < len → ∀ j, j < sz → ∃ x, w.cell? (a'.add (i * sz + j)) = some (.int kd x) ∧ (Lit.int kd x).wf = true := by
      intro i hi j hj
      obtain ⟨cs', hcs, htr⟩ := hel i (by omega)
      obtain ⟨_, hlen, hat⟩ := World.cells?_some hcs
      obtain ⟨hl2, hleaf⟩ := flat_leaves n e ts n' cs' _ hfl htr
      rw [hC] at hlen hat
      have hu : ts[j]? = some (ts[j]'(by omega)) := List.getElem?_eq_getElem (by omega)
      have hx : cs'[j]? = some (cs'[j]'(by omega)) := List.getElem?_eq_getElem (by omega)
      obtain ⟨x, hxv, hw⟩ := leaf_int (hint _ (List.getElem_mem _)) (hleaf j _ _ hu hx)
      refine ⟨x, ?_, hw⟩
      rw [← Go.Deep.add_add, hat j hj, hx, hxv]
    obtain ⟨q, hq, hw⟩ : ∃ q : Nat → Nat → Int, (∀ i, i < len → ∀ j, j < sz → w.cell? (a'.add (i * sz + j)) = some (.int kd (q i j))) ∧ ∀ i j, (Lit.int kd (q i j)).wf = true := by
      refine ⟨fun i j => if h : i < len ∧ j < sz then (key i h.1 j h.2).choose else 0, fun i hi j hj => ?_, fun i j => ?_⟩
      · simp only [dif_pos (And.intro hi hj)]
        exact (key i hi j hj).choose_spec.1
      · dsimp only
        split
        · rename_i h
          exact (key i h.1 j h.2).choose_spec.2
        · exact hk0
    clear key
    refine ⟨some a', len, cap, q, rfl, ?_, hlc, hcm, hw, hin⟩
    rcases Nat.eq_zero_or_pos len with h0 | h0
    · exact .inl h0
    · right
      have hx := hq 0 h0 0 hsz
      have e0 : a'.add (0 * sz + 0) = a' := by
        obtain ⟨b, off, spot⟩ := a'
        simp [Addr.add]
      rw [e0] at hx
      obtain ⟨hs, hb⟩ := cell_nospot hx
      obtain ⟨b, off, spot⟩ := a'
      simp only at hs
      subst hs
      refine ⟨b, off, rfl, hb, fun i hi j hj => ?_⟩
      have hk := hq i hi j hj
      rw [add_spot] at hk
      rw [Nat.add_assoc]
      exact hk
theorem u64_wds {n : Int} (hw : (Lit.int .u64 n).wf = true) : 0 ≤ n ∧ n < 18446744073709551616 := by
  have hw' : 0 ≤ n ∧ n ≤ 18446744073709551615 := by simpa [Lit.wf, IntKind.min, IntKind.max, IntKind.signed, IntKind.bits] using hw
  omega
end
section
variable {H : Type} {enc : TypeId × Value → H} {w : World} {base : Nat} {spare : Nat → Bool} {held : Bool}
theorem u64sK : ∀ u ∈ List.replicate 8 23, Tryd.prog.underlying u = some (.int .u64) := by
  intro u hu
  rw [(List.mem_replicate.1 hu).2]
  exact Tryd.underlying23
theorem open_sigsU {r : Reach} {b0 : Nat} {v : Value} {d : DataW H} {p : List MemPlace} (hv : Value.okWide Tryd.prog w r b0 37 v) (h : DataW.Trod enc Tryd.prog w base spare held 37 v d p) :
    ∃ (a : Option Addr) (len cap : Nat) (q : Nat → Nat → Int), v = .slice a len cap ∧ SigsAt w a len q ∧ len ≤ cap ∧ cap ≤ maxLen ∧ (∀ i, Wds (q i)) ∧ InD d len := by
  obtain ⟨a, len, cap, rfl⟩ := okWide_slice Tryd.underlying37 hv
  obtain ⟨fuel, hf⟩ := h
  obtain ⟨a1, l1, c1, q, e, g, hlc, hcm, hw, i1⟩ := open_gridK .u64 (by rfl) (n := 4) (sz := 8) (ts := List.replicate 8 23) Tryd.underlying37 flatSig (by kernel_rfl) rfl (by decide) u64sK hf
  exact ⟨a1, l1, c1, q, e, g, hlc, hcm, fun i j => u64_wds (hw i j), i1⟩
theorem slice_top {t e : TypeId} {a : Option Addr} {len cap : Nat} {d : DataW H} {p : List MemPlace} (ht : Tryd.prog.underlying t = some (.slice e)) (h : DataW.Trod enc Tryd.prog w base spare held t (.slice a len cap) d p) : len = 0 ∨ ∃ el sp, d = .slice el sp ∧ el.length = len := by
  obtain ⟨fuel, hf⟩ := h
  rcases open_slice ht hf with ⟨he, hx⟩ | ⟨a', len', cap', m, n', D, Pl, he, _, hlc, hcm, hm, hx, _⟩
  · simp only [Value.cells, List.cons.injEq, and_true, Value.slice.injEq] at he
    obtain ⟨rfl, rfl, rfl⟩ := he
    exact .inl rfl
  · simp only [Value.cells, List.cons.injEq, and_true, Value.slice.injEq] at he
    obtain ⟨rfl, rfl, rfl⟩ := he
    simp only [Prod.mk.injEq] at hx
    obtain ⟨rfl, _⟩ := hx
    exact .inr ⟨_, _, rfl, by simp⟩
theorem bytesSig : Tryd.prog.bytesOf 25 = 64 := by kernel_rfl
/-- A list of signatures that lies in memory has at most 2^41 of them. -/
theorem sigs_sized {ts : List TypeId} {ds : List (DataW H)} {j : Nat} {a : Option Addr} {len cap : Nat} {d : DataW H} {p : List MemPlace} (hz : (DataW.weightsEach Tryd.prog ts ds).all (· ≤ reachBytes) = true) (ht : ts[j]? = some 37) (hd : ds[j]? = some d)
    (h : DataW.Trod enc Tryd.prog w base spare held 37 (.slice a len cap) d p) : len ≤ 2199023255552 := by
  rcases slice_top Tryd.underlying37 h with h0 | ⟨el, sp, rfl, hl⟩
  · omega
  · have h1 := sized_slice hz ht hd Tryd.underlying37
    rw [bytesSig] at h1
    have h2 := reachBytes_lt
    omega
end
end Go.Proofs.YtcnkoiogfhggeaaDoor
