/- How the arguments of the laws over memories are read; how long a list is by its reading. -/
import Derived.Test.YtcbjbmbibnmohaaProg
import Derived.Test.YtcbjbmbibnmohaaR1
import Derived.WalkKit
import Derived.Test.YtcbjbmbibnmohaaS2
namespace Go.Proofs.Ytcbjbmbibnmohaa
open Go.ChangeShapes Go.WideShapes Go.Deep Go.RowKit
/-- A list of n places lies in the reading. -/
inductive InD {H : Type} : DataW H → Nat → Prop where
  | zero (d : DataW H) : InD d 0
  | slice (el sp : List (DataW H)) : InD (.slice el sp) el.length
  | agg (parts : List (DataW H)) (d : DataW H) (n : Nat) (h : d ∈ parts) (hi : InD d n) : InD (.agg parts) n
section
variable {H : Type} {P : Program} {enc : TypeId × Value → H} {w : World} {base : Nat} {spare : Nat → Bool} {held : Bool}
theorem slice_inD {t e : TypeId} {a : Option Addr} {len cap : Nat} {d : DataW H} {p : List MemPlace} (ht : P.underlying t = some (.slice e)) (h : DataW.Trod enc P w base spare held t (.slice a len cap) d p) : InD d len := by
  obtain ⟨fuel, hf⟩ := h
  rcases open_slice ht hf with ⟨he, hx⟩ | ⟨a', len', cap', m, n', D, Pl, he, _, hlc, hcm, hm, hx, _⟩
  · simp only [Value.cells, List.cons.injEq, and_true, Value.slice.injEq] at he
    obtain ⟨rfl, rfl, rfl⟩ := he
    exact .zero _
  · simp only [Value.cells, List.cons.injEq, and_true, Value.slice.injEq] at he
    obtain ⟨rfl, rfl, rfl⟩ := he
    simp only [Prod.mk.injEq] at hx
    obtain ⟨rfl, _⟩ := hx
    have := InD.slice ((List.range len).map D) ((List.range (m - len)).map fun j => D (len + j))
    simpa using this
end
section
variable {H : Type} {enc : TypeId × Value → H} {w : World} {base : Nat} {spare : Nat → Bool} {held : Bool}
end
end Go.Proofs.Ytcbjbmbibnmohaa
namespace Go.Proofs.Ytcbjbmbibnmohaa
open Go.ChangeShapes Go.WideShapes Go.Deep Go.RowKit
theorem u64_wf {n : Int} (hw : (Lit.int .u64 n).wf = true) : 0 ≤ n ∧ n < 18446744073709551616 := by
  have hw' : 0 ≤ n ∧ n ≤ 18446744073709551615 := by simpa [Lit.wf, IntKind.min, IntKind.max, IntKind.signed, IntKind.bits] using hw
  omega
/-- A signature of eight numbers. -/
theorem sig8 (a0 a1 a2 a3 a4 a5 a6 a7 : Int) (h0 : (Lit.int .u64 a0).wf = true) (h1 : (Lit.int .u64 a1).wf = true) (h2 : (Lit.int .u64 a2).wf = true) (h3 : (Lit.int .u64 a3).wf = true) (h4 : (Lit.int .u64 a4).wf = true) (h5 : (Lit.int .u64 a5).wf = true) (h6 : (Lit.int .u64 a6).wf = true) (h7 : (Lit.int .u64 a7).wf = true) :
    ∃ s : Nat → Int, Wds s ∧ s 0 = a0 ∧ s 1 = a1 ∧ s 2 = a2 ∧ s 3 = a3 ∧ s 4 = a4 ∧ s 5 = a5 ∧ s 6 = a6 ∧ s 7 = a7 := by
  refine ⟨fun k => match k with | 0 => a0 | 1 => a1 | 2 => a2 | 3 => a3 | 4 => a4 | 5 => a5 | 6 => a6 | 7 => a7 | _ => 0, fun k => ?_, rfl, rfl, rfl, rfl, rfl, rfl, rfl, rfl⟩
  match k with
  | 0 => exact u64_wf h0
  | 1 => exact u64_wf h1
  | 2 => exact u64_wf h2
  | 3 => exact u64_wf h3
  | 4 => exact u64_wf h4
  | 5 => exact u64_wf h5
  | 6 => exact u64_wf h6
  | 7 => exact u64_wf h7
  | k + 8 => exact ⟨by show (0 : Int) ≤ 0; omega, by show (0 : Int) < 18446744073709551616; omega⟩
section
variable {H : Type} {enc : TypeId × Value → H} {w : World} {base : Nat} {spare : Nat → Bool} {held : Bool}
end
end Go.Proofs.Ytcbjbmbibnmohaa
namespace Go.Proofs.Ytcbjbmbibnmohaa
open Go.ChangeShapes Go.WideShapes Go.Deep Go.RowKit
section
variable {H : Type} {P : Program} {enc : TypeId × Value → H} {w : World} {base : Nat} {spare : Nat → Bool} {held : Bool}
theorem open_gridS {n sz : Nat} {t e : TypeId} {ts : List TypeId} {v : Value} {fuel : Nat} {y : DataW H × List MemPlace} (ht : P.underlying t = some (.slice e)) (hfl : flat P n e = some ts)
    (hC : P.cellsOf e = sz) (hts : ts.length = sz) (hsz : 0 < sz) (hint : ∀ u ∈ ts, P.underlying u = some (.int .i64)) (hf : DataW.trod enc P w base spare held fuel t [v] = some y) :
    ∃ a len cap q, v = .slice a len cap ∧ Grid w a len sz q ∧ len ≤ cap ∧ cap ≤ maxLen ∧ (∀ i j, (Lit.int .i64 (q i j)).wf = true) ∧ InD y.1 len := by
  rcases open_slice ht hf with ⟨he, hy⟩ | ⟨a', len, cap, m, n', D, Pl, he, _, hlc, hcm, hm, hy, hel⟩
  · simp only [List.cons.injEq, and_true] at he
    subst he
    exact ⟨none, 0, 0, fun _ _ => 0, rfl, .inl rfl, Nat.le_refl _, Nat.zero_le _, fun _ _ => rfl, .zero _⟩
  · simp only [List.cons.injEq, and_true] at he
    subst he
    have hin : InD y.1 len := by
      rw [hy]
      have := InD.slice ((List.range len).map D) ((List.range (m - len)).map fun j => D (len + j))
      simpa using this
    have hge : len ≤ m := by rw [hm]; split <;> omega
    have key : ∀ i, i < len → ∀ j, j < sz → ∃ x, w.cell? (a'.add (i * sz + j)) = some (.int .i64 x) ∧ (Lit.int .i64 x).wf = true := by
      intro i hi j hj
      obtain ⟨cs', hcs, htr⟩ := hel i (by omega)
      obtain ⟨_, hlen, hat⟩ := World.cells?_some hcs
      obtain ⟨hl2, hleaf⟩ := flat_leaves n e ts n' cs' _ hfl htr
      rw [hC] at hlen hat
      have hu : ts[j]? = some (ts[j]'(by omega)) := List.getElem?_eq_getElem (by omega)
      have hx : cs'[j]? = some (cs'[j]'(by omega)) := List.getElem?_eq_getElem (by omega)
      obtain ⟨x, hxv, hw⟩ := leaf_int (hint _ (List.getElem_mem _)) (hleaf j _ _ hu hx)
      refine ⟨x, ?_, hw⟩
      rw [← Go.Deep.add_add, hat j hj, hx, hxv]
    obtain ⟨q, hq, hw⟩ : ∃ q : Nat → Nat → Int, (∀ i, i < len → ∀ j, j < sz → w.cell? (a'.add (i * sz + j)) = some (.int .i64 (q i j))) ∧ ∀ i j, (Lit.int .i64 (q i j)).wf = true := by
      refine ⟨fun i j => if h : i < len ∧ j < sz then (key i h.1 j h.2).choose else 0, fun i hi j hj => ?_, fun i j => ?_⟩
      · simp only [dif_pos (And.intro hi hj)]
        exact (key i hi j hj).choose_spec.1
      · dsimp only
        split
        · rename_i h
          exact (key i h.1 j h.2).choose_spec.2
        · rfl
    clear key
    refine ⟨some a', len, cap, q, rfl, ?_, hlc, hcm, hw, hin⟩
    rcases Nat.eq_zero_or_pos len with h0 | h0
    · exact .inl h0
    · right
      have hx := hq 0 h0 0 hsz
      have e0 : a'.add (0 * sz + 0) = a' := by
        obtain ⟨b, off, spot⟩ := a'
        simp [Addr.add]
      rw [e0] at hx
      obtain ⟨hs, hb⟩ := cell_nospot hx
      obtain ⟨b, off, spot⟩ := a'
      simp only at hs
      subst hs
      refine ⟨b, off, rfl, hb, fun i hi j hj => ?_⟩
      have hk := hq i hi j hj
      rw [add_spot] at hk
      rw [Nat.add_assoc]
      exact hk
/-- A field of one cell in a struct's reading. -/
theorem field_in {t st : TypeId} {fs : Array Field} {j o : Nat} {cs : List Value} {d : DataW H} {p : List MemPlace} {fuel : Nat} (hu : P.underlying t = some (.struct fs)) (hj : (fs[j]?).map (fun f => (f.type, f.offset)) = some (st, o)) (hc : P.cellsOf st = 1)
    (h : DataW.trod enc P w base spare held fuel t cs = some (d, p)) {v : Value} (hv : cs[o]? = some v) : ∃ n y, DataW.trod enc P w base spare held n st [v] = some y ∧ ∀ k, InD y.1 k → InD d k := by
  obtain ⟨xs, m, _, hx, hlen, hxl, hg⟩ := DataW.trod_struct hu h
  obtain ⟨f, hf, hfo⟩ := Option.map_eq_some_iff.1 hj
  simp only [Prod.mk.injEq] at hfo
  obtain ⟨rfl, rfl⟩ := hfo
  have hjl : j < xs.length := by rw [hxl]; exact (Array.getElem?_eq_some_iff.1 hf).1
  have h1 := (hg j f hf).trans (List.getElem?_eq_getElem hjl)
  have e : (cs.drop f.offset).take (P.cellsOf f.type) = [v] := by
    obtain ⟨hl, he⟩ := List.getElem?_eq_some_iff.1 hv
    rw [hc, List.drop_eq_getElem_cons hl, he]; rfl
  rw [e] at h1
  refine ⟨m, xs[j], h1, fun k hk => ?_⟩
  simp only [Prod.mk.injEq] at hx
  rw [hx.1]
  exact .agg _ xs[j].1 k (List.mem_map.2 ⟨xs[j], List.getElem_mem _, rfl⟩) hk
end
section
variable {H : Type} {enc : TypeId × Value → H} {w : World} {base : Nat} {spare : Nat → Bool} {held : Bool}
end
open Go.ChangeShapes Go.WideShapes Go.Deep Go.RowKit
section
variable {H : Type} {enc : TypeId × Value → H} {w : World} {base : Nat} {spare : Nat → Bool} {held : Bool}
end
end Go.Proofs.Ytcbjbmbibnmohaa
