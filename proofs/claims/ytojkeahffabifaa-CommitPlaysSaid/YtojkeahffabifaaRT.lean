/- How the arguments of the laws over memories are read; how long a list is by its reading. -/
import Derived.Test.YtojkeahffabifaaProg
import Derived.Test.YtojkeahffabifaaR1
import Derived.WalkKit
import Derived.Test.YtojkeahffabifaaS2
import Derived.SizedLaws
namespace Go.Proofs.Ytojkeahffabifaa
open Go.ChangeShapes Go.WideShapes Go.Deep Go.RowKit
/-- A list of n places lies in the reading. -/
inductive InD {H : Type} : DataW H → Nat → Prop where
  | zero (d : DataW H) : InD d 0
  | slice (el sp : List (DataW H)) : InD (.slice el sp) el.length
  | agg (parts : List (DataW H)) (d : DataW H) (n : Nat) (h : d ∈ parts) (hi : InD d n) : InD (.agg parts) n
section
variable {H : Type} {P : Program} {enc : TypeId × Value → H} {w : World} {base : Nat} {spare : Nat → Bool} {held : Bool}
theorem slice_inD {t e : TypeId} {a : Option Addr} {len cap : Nat} {d : DataW H} {p : List MemPlace} (ht : P.underlying t = some (.slice e)) (h : DataW.Trod enc P w base spare held t (.slice a len cap) d p) : InD d len := by
  obtain ⟨fuel, hf⟩ := h
  rcases open_slice ht hf with ⟨he, hx⟩ | ⟨a', len', cap', m, n', D, Pl, he, _, hlc, hcm, hm, hx, _⟩
  · simp only [Value.cells, List.cons.injEq, and_true, Value.slice.injEq] at he
    obtain ⟨rfl, rfl, rfl⟩ := he
    exact .zero _
  · simp only [Value.cells, List.cons.injEq, and_true, Value.slice.injEq] at he
    obtain ⟨rfl, rfl, rfl⟩ := he
    simp only [Prod.mk.injEq] at hx
    obtain ⟨rfl, _⟩ := hx
    have := InD.slice ((List.range len).map D) ((List.range (m - len)).map fun j => D (len + j))
    simpa using this
end
section
variable {H : Type} {P : Program} {enc : TypeId × Value → H} {w : World} {base : Nat} {spare : Nat → Bool} {held : Bool}
theorem slice_topT {t e : TypeId} {a : Option Addr} {len cap : Nat} {d : DataW H} {p : List MemPlace} (ht : P.underlying t = some (.slice e)) (h : DataW.Trod enc P w base spare held t (.slice a len cap) d p) : len = 0 ∨ ∃ el sp, d = .slice el sp ∧ el.length = len := by
  obtain ⟨fuel, hf⟩ := h
  rcases open_slice ht hf with ⟨he, hx⟩ | ⟨a', len', cap', m, n', D, Pl, he, _, hlc, hcm, hm, hx, _⟩
  · simp only [Value.cells, List.cons.injEq, and_true, Value.slice.injEq] at he
    obtain ⟨rfl, rfl, rfl⟩ := he
    exact .inl rfl
  · simp only [Value.cells, List.cons.injEq, and_true, Value.slice.injEq] at he
    obtain ⟨rfl, rfl, rfl⟩ := he
    simp only [Prod.mk.injEq] at hx
    obtain ⟨rfl, _⟩ := hx
    exact .inr ⟨_, _, rfl, by simp⟩
/-- A list that lies in memory takes at most what memory bears. -/
theorem sized_len {ts : List TypeId} {ds : List (DataW H)} {j B : Nat} {t e : TypeId} {a : Option Addr} {len cap : Nat} {d : DataW H} {p : List MemPlace} (hu : P.underlying t = some (.slice e)) (hB : P.bytesOf e = B)
    (hz : (DataW.weightsEach P ts ds).all (· ≤ reachBytes) = true) (ht : ts[j]? = some t) (hd : ds[j]? = some d) (h : DataW.Trod enc P w base spare held t (.slice a len cap) d p) : len * B ≤ 140737488351232 := by
  rcases slice_topT hu h with h0 | ⟨el, sp, rfl, hl⟩
  · subst h0; omega
  · have h1 := sized_slice hz ht hd hu
    rw [hB, hl, Nat.add_mul] at h1
    have h2 : reachBytes = 140737488351232 := by decide
    omega
end
section
variable {H : Type} {enc : TypeId × Value → H} {w : World} {base : Nat} {spare : Nat → Bool} {held : Bool}
end
end Go.Proofs.Ytojkeahffabifaa
namespace Go.Proofs.Ytojkeahffabifaa
open Go.ChangeShapes Go.WideShapes Go.Deep Go.RowKit
theorem u64_wf {n : Int} (hw : (Lit.int .u64 n).wf = true) : 0 ≤ n ∧ n < 18446744073709551616 := by
  have hw' : 0 ≤ n ∧ n ≤ 18446744073709551615 := by simpa [Lit.wf, IntKind.min, IntKind.max, IntKind.signed, IntKind.bits] using hw
  omega
/-- A signature of eight numbers. -/
theorem sig8 (a0 a1 a2 a3 a4 a5 a6 a7 : Int) (h0 : (Lit.int .u64 a0).wf = true) (h1 : (Lit.int .u64 a1).wf = true) (h2 : (Lit.int .u64 a2).wf = true) (h3 : (Lit.int .u64 a3).wf = true) (h4 : (Lit.int .u64 a4).wf = true) (h5 : (Lit.int .u64 a5).wf = true) (h6 : (Lit.int .u64 a6).wf = true) (h7 : (Lit.int .u64 a7).wf = true) :
    ∃ s : Nat → Int, Wds s ∧ s 0 = a0 ∧ s 1 = a1 ∧ s 2 = a2 ∧ s 3 = a3 ∧ s 4 = a4 ∧ s 5 = a5 ∧ s 6 = a6 ∧ s 7 = a7 := by
  refine ⟨fun k => match k with | 0 => a0 | 1 => a1 | 2 => a2 | 3 => a3 | 4 => a4 | 5 => a5 | 6 => a6 | 7 => a7 | _ => 0, fun k => ?_, rfl, rfl, rfl, rfl, rfl, rfl, rfl, rfl⟩
  match k with
  | 0 => exact u64_wf h0
  | 1 => exact u64_wf h1
  | 2 => exact u64_wf h2
  | 3 => exact u64_wf h3
  | 4 => exact u64_wf h4
  | 5 => exact u64_wf h5
  | 6 => exact u64_wf h6
  | 7 => exact u64_wf h7
  | k + 8 => exact ⟨by show (0 : Int) ≤ 0; omega, by show (0 : Int) < 18446744073709551616; omega⟩
section
variable {H : Type} {enc : TypeId × Value → H} {w : World} {base : Nat} {spare : Nat → Bool} {held : Bool}
end
end Go.Proofs.Ytojkeahffabifaa
namespace Go.Proofs.Ytojkeahffabifaa
open Go.ChangeShapes Go.WideShapes Go.Deep Go.RowKit
section
variable {H : Type} {P : Program} {enc : TypeId × Value → H} {w : World} {base : Nat} {spare : Nat → Bool} {held : Bool}
theorem open_gridS {n sz : Nat} {t e : TypeId} {ts : List TypeId} {v : Value} {fuel : Nat} {y : DataW H × List MemPlace} (ht : P.underlying t = some (.slice e)) (hfl : flat P n e = some ts)
    (hC : P.cellsOf e = sz) (hts : ts.length = sz) (hsz : 0 < sz) (hint : ∀ u ∈ ts, P.underlying u = some (.int .i64)) (hf : DataW.trod enc P w base spare held fuel t [v] = some y) :
    ∃ a len cap q, v = .slice a len cap ∧ Grid w a len sz q ∧ len ≤ cap ∧ cap ≤ maxLen ∧ (∀ i j, (Lit.int .i64 (q i j)).wf = true) ∧ InD y.1 len := by
  rcases open_slice ht hf with ⟨he, hy⟩ | ⟨a', len, cap, m, n', D, Pl, he, _, hlc, hcm, hm, hy, hel⟩
  · simp only [List.cons.injEq, and_true] at he
    subst he
    exact ⟨none, 0, 0, fun _ _ => 0, rfl, .inl rfl, Nat.le_refl _, Nat.zero_le _, fun _ _ => rfl, .zero _⟩
  · simp only [List.cons.injEq, and_true] at he
    subst he
    have hin : InD y.1 len := by
      rw [hy]
      have := InD.slice ((List.range len).map D) ((List.range (m - len)).map fun j => D (len + j))
      simpa using this
    have hge : len ≤ m := by rw [hm]; split <;> omega
    have key : ∀ i, i < len → ∀ j, j < sz → ∃ x, w.cell? (a'.add (i * sz + j)) = some (.int .i64 x) ∧ (Lit.int .i64 x).wf = true := by
      intro i hi j hj
      obtain ⟨cs', hcs, htr⟩ := hel i (by omega)
      obtain ⟨_, hlen, hat⟩ := World.cells?_some hcs
      obtain ⟨hl2, hleaf⟩ := flat_leaves n e ts n' cs' _ hfl htr
      rw [hC] at hlen hat
      have hu : ts[j]? = some (ts[j]'(by omega)) := List.getElem?_eq_getElem (by omega)
      have hx : cs'[j]? = some (cs'[j]'(by omega)) := List.getElem?_eq_getElem (by omega)
      obtain ⟨x, hxv, hw⟩ := leaf_int (hint _ (List.getElem_mem _)) (hleaf j _ _ hu hx)
      refine ⟨x, ?_, hw⟩
      rw [← Go.Deep.add_add, hat j hj, hx, hxv]
    obtain ⟨q, hq, hw⟩ : ∃ q : Nat → Nat → Int, (∀ i, i < len → ∀ j, j < sz → w.cell? (a'.add (i * sz + j)) = some (.int .i64 (q i j))) ∧ ∀ i j, (Lit.int .i64 (q i j)).wf = true := by
      refine ⟨fun i j => if h : i < len ∧ j < sz then (key i h.1 j h.2).choose else 0, fun i hi j hj => ?_, fun i j => ?_⟩
      · simp only [dif_pos (And.intro hi hj)]
        exact (key i hi j hj).choose_spec.1
      · dsimp only
        split
        · rename_i h
          exact (key i h.1 j h.2).choose_spec.2
        · rfl
    clear key
    refine ⟨some a', len, cap, q, rfl, ?_, hlc, hcm, hw, hin⟩
    rcases Nat.eq_zero_or_pos len with h0 | h0
    · exact .inl h0
    · right
      have hx := hq 0 h0 0 hsz
      have e0 : a'.add (0 * sz + 0) = a' := by
        obtain ⟨b, off, spot⟩ := a'
        simp [Addr.add]
      rw [e0] at hx
      obtain ⟨hs, hb⟩ := cell_nospot hx
      obtain ⟨b, off, spot⟩ := a'
      simp only at hs
      subst hs
      refine ⟨b, off, rfl, hb, fun i hi j hj => ?_⟩
      have hk := hq i hi j hj
      rw [add_spot] at hk
      rw [Nat.add_assoc]
      exact hk
/-- A field of one cell in a struct's reading. -/
theorem field_in {t st : TypeId} {fs : Array Field} {j o : Nat} {cs : List Value} {d : DataW H} {p : List MemPlace} {fuel : Nat} (hu : P.underlying t = some (.struct fs)) (hj : (fs[j]?).map (fun f => (f.type, f.offset)) = some (st, o)) (hc : P.cellsOf st = 1)
    (h : DataW.trod enc P w base spare held fuel t cs = some (d, p)) {v : Value} (hv : cs[o]? = some v) : ∃ n y, DataW.trod enc P w base spare held n st [v] = some y ∧ ∀ k, InD y.1 k → InD d k := by
  obtain ⟨xs, m, _, hx, hlen, hxl, hg⟩ := DataW.trod_struct hu h
  obtain ⟨f, hf, hfo⟩ := Option.map_eq_some_iff.1 hj
  simp only [Prod.mk.injEq] at hfo
  obtain ⟨rfl, rfl⟩ := hfo
  have hjl : j < xs.length := by rw [hxl]; exact (Array.getElem?_eq_some_iff.1 hf).1
  have h1 := (hg j f hf).trans (List.getElem?_eq_getElem hjl)
  have e : (cs.drop f.offset).take (P.cellsOf f.type) = [v] := by
    obtain ⟨hl, he⟩ := List.getElem?_eq_some_iff.1 hv
    rw [hc, List.drop_eq_getElem_cons hl, he]; rfl
  rw [e] at h1
  refine ⟨m, xs[j], h1, fun k hk => ?_⟩
  simp only [Prod.mk.injEq] at hx
  rw [hx.1]
  exact .agg _ xs[j].1 k (List.mem_map.2 ⟨xs[j], List.getElem_mem _, rfl⟩) hk
/-- .. likewise a list in a field of a struct. -/
theorem sized_field {t st e : TypeId} {fs : Array Field} {i j o B : Nat} {ts : List TypeId} {ds : List (DataW H)} {d : DataW H} {p : List MemPlace} {v : Value} {a : Option Addr} {len cap : Nat} (hu : P.underlying t = some (.struct fs)) (hj : (fs[j]?).map (fun f => (f.type, f.offset)) = some (st, o)) (hc : P.cellsOf st = 1)
    (hs : P.underlying st = some (.slice e)) (hB : P.bytesOf e = B) (hz : (DataW.weightsEach P ts ds).all (· ≤ reachBytes) = true) (ht : ts[i]? = some t) (hd : ds[i]? = some d) (h : DataW.Trod enc P w base spare held t v d p) (hv : v.cells.toList[o]? = some (.slice a len cap)) : len * B ≤ 140737488351232 := by
  obtain ⟨fuel, hf⟩ := h
  obtain ⟨xs, m, _, hx, hlen, hxl, hg⟩ := DataW.trod_struct hu hf
  obtain ⟨f, hff, hfo⟩ := Option.map_eq_some_iff.1 hj
  simp only [Prod.mk.injEq] at hfo
  obtain ⟨rfl, rfl⟩ := hfo
  have hjl : j < xs.length := by rw [hxl]; exact (Array.getElem?_eq_some_iff.1 hff).1
  have h1 := (hg j f hff).trans (List.getElem?_eq_getElem hjl)
  have e1 : (v.cells.toList.drop f.offset).take (P.cellsOf f.type) = [.slice a len cap] := by
    obtain ⟨hl, he⟩ := List.getElem?_eq_some_iff.1 hv
    rw [hc, List.drop_eq_getElem_cons hl, he]; rfl
  rw [e1] at h1
  simp only [Prod.mk.injEq] at hx
  obtain ⟨hx1, _⟩ := hx
  have hT : DataW.Trod enc P w base spare held f.type (.slice a len cap) xs[j].1 xs[j].2 := ⟨m, h1⟩
  rcases slice_topT hs hT with h0 | ⟨el, sp, he, hl⟩
  · subst h0; omega
  · have hts2 : (fs.toList.map (·.type))[j]? = some f.type := by rw [List.getElem?_map, Array.getElem?_toList, hff]; rfl
    have hd2 : (xs.map (·.1))[j]? = some xs[j].1 := by rw [List.getElem?_map, List.getElem?_eq_getElem hjl]; rfl
    have hn := DataW.weights_mem_each (P := P) hts2 hd2 ((el.length + sp.length) * P.bytesOf e) (by rw [he]; simp [DataW.weights, hs])
    have hn2 := DataW.weights_mem_each (P := P) ht hd ((el.length + sp.length) * P.bytesOf e) (by rw [hx1]; simp only [DataW.weights, hu]; exact hn)
    have h3 := List.all_eq_true.1 hz _ hn2
    simp only [decide_eq_true_eq] at h3
    rw [hB, hl, Nat.add_mul] at h3
    have h2 : reachBytes = 140737488351232 := by decide
    omega
end
section
variable {H : Type} {enc : TypeId × Value → H} {w : World} {base : Nat} {spare : Nat → Bool} {held : Bool}
end
open Go.ChangeShapes Go.WideShapes Go.Deep Go.RowKit
section
variable {H : Type} {enc : TypeId × Value → H} {w : World} {base : Nat} {spare : Nat → Bool} {held : Bool}
end
end Go.Proofs.Ytojkeahffabifaa
namespace Go.Proofs.Ytojkeahffabifaa
open Go.ChangeShapes Go.WideShapes Go.Deep Go.RowKit
set_option linter.unusedVariables false
/-- Turns: a number, a list of writes each. -/
def Turns (w : World) (a : Option Addr) (len : Nat) (ks : Nat → Int) (sl : Nat → Option Addr × Nat × Nat) (q : Nat → Nat → Nat → Int) : Prop :=
  len = 0 ∨ ∃ b off, a = some ⟨b, off, none⟩ ∧ b < w.heap.size ∧ ∀ i, i < len → w.cell? ⟨b, off + i * 2, none⟩ = some (.int .i64 (ks i)) ∧ w.cell? ⟨b, off + i * 2 + 1, none⟩ = some (.slice (sl i).1 (sl i).2.1 (sl i).2.2) ∧ Grid w (sl i).1 (sl i).2.1 2 (q i) ∧ (sl i).2.1 ≤ (sl i).2.2 ∧ (sl i).2.2 ≤ maxLen ∧ (Lit.int .i64 (ks i)).wf = true ∧ ∀ j k, (Lit.int .i64 (q i j k)).wf = true
theorem Turns.below {w w' : World} {a : Option Addr} {len : Nat} {ks : Nat → Int} {sl : Nat → Option Addr × Nat × Nat} {q : Nat → Nat → Nat → Int} (h : Turns w a len ks sl q) (hb : Go.RowKit.Below w.heap.size w w') : Turns w' a len ks sl q :=
  h.elim .inl fun ⟨b, off, e, hlt, hc⟩ => .inr ⟨b, off, e, Nat.lt_of_lt_of_le hlt hb.size, fun i hi => ⟨(hb.cell (p := ⟨b, off + i * 2, none⟩) hlt).trans (hc i hi).1, (hb.cell (p := ⟨b, off + i * 2 + 1, none⟩) hlt).trans (hc i hi).2.1, (hc i hi).2.2.1.below hb, (hc i hi).2.2.2⟩⟩
section
variable {H : Type} {P : Program} {enc : TypeId × Value → H} {w : World} {base : Nat} {spare : Nat → Bool} {held : Bool}
theorem open_turnsS {n n2 : Nat} {t e ti lt wt : TypeId} {ts : List TypeId} {v : Value} {fuel : Nat} {y : DataW H × List MemPlace} (ht : P.underlying t = some (.slice e)) (hfl : flat P n e = some [ti, lt]) (hC : P.cellsOf e = 2)
    (hti : P.underlying ti = some (.int .i64)) (hlt : P.underlying lt = some (.slice wt)) (hfw : flat P n2 wt = some ts) (hCw : P.cellsOf wt = 2) (hts : ts.length = 2) (hint : ∀ u ∈ ts, P.underlying u = some (.int .i64))
    (hf : DataW.trod enc P w base spare held fuel t [v] = some y) :
    ∃ a len cap ks sl q, v = .slice a len cap ∧ Turns w a len ks sl q ∧ len ≤ cap ∧ cap ≤ maxLen ∧ InD y.1 len := by
  rcases open_slice ht hf with ⟨he, hy⟩ | ⟨a', len, cap, m, n', D, Pl, he, _, hlc, hcm, hm, hy, hel⟩
  · simp only [List.cons.injEq, and_true] at he
    subst he
    exact ⟨none, 0, 0, fun _ => 0, fun _ => (none, 0, 0), fun _ _ _ => 0, rfl, .inl rfl, Nat.le_refl _, Nat.zero_le _, .zero _⟩
  · simp only [List.cons.injEq, and_true] at he
    subst he
    have hin : InD y.1 len := by
      rw [hy]
      have := InD.slice ((List.range len).map D) ((List.range (m - len)).map fun j => D (len + j))
      simpa using this
    have hge : len ≤ m := by rw [hm]; split <;> omega
    have key : ∀ i, i < len → ∃ (x : Int) (s : Option Addr × Nat × Nat) (q : Nat → Nat → Int), w.cell? (a'.add (i * 2)) = some (.int .i64 x) ∧ w.cell? (a'.add (i * 2 + 1)) = some (.slice s.1 s.2.1 s.2.2) ∧ Grid w s.1 s.2.1 2 q ∧ s.2.1 ≤ s.2.2 ∧ s.2.2 ≤ maxLen ∧ (Lit.int .i64 x).wf = true ∧ ∀ j k, (Lit.int .i64 (q j k)).wf = true := by
      intro i hi
      obtain ⟨cs', hcs, htr⟩ := hel i (by omega)
      obtain ⟨_, hlen, hat⟩ := World.cells?_some hcs
      obtain ⟨hl2, hleaf⟩ := flat_leaves n e _ n' cs' _ hfl htr
      rw [hC] at hlen hat
      match cs', hl2 with
      | [x0, x1], _ =>
        obtain ⟨x, rfl, hw⟩ := leaf_int hti (hleaf 0 _ x0 rfl rfl)
        obtain ⟨m1, y1, hy1⟩ := hleaf 1 _ x1 rfl rfl
        obtain ⟨a, ln, cp, q, rfl, g1, g2, g3, g4, _⟩ := open_gridS hlt hfw hCw hts (by decide) hint hy1
        have h0 := hat 0 (by omega)
        have h1 := hat 1 (by omega)
        rw [Go.Deep.add_add] at h0 h1
        exact ⟨x, (a, ln, cp), q, by simpa using h0, by simpa using h1, g1, g2, g3, hw, g4⟩
    obtain ⟨ks, sl, q, hq⟩ : ∃ (ks : Nat → Int) (sl : Nat → Option Addr × Nat × Nat) (q : Nat → Nat → Nat → Int), ∀ i, i < len → w.cell? (a'.add (i * 2)) = some (.int .i64 (ks i)) ∧ w.cell? (a'.add (i * 2 + 1)) = some (.slice (sl i).1 (sl i).2.1 (sl i).2.2) ∧ Grid w (sl i).1 (sl i).2.1 2 (q i) ∧ (sl i).2.1 ≤ (sl i).2.2 ∧ (sl i).2.2 ≤ maxLen ∧ (Lit.int .i64 (ks i)).wf = true ∧ ∀ j k, (Lit.int .i64 (q i j k)).wf = true := by
      refine ⟨fun i => if h : i < len then (key i h).choose else 0, fun i => if h : i < len then (key i h).choose_spec.choose else (none, 0, 0), fun i => if h : i < len then (key i h).choose_spec.choose_spec.choose else fun _ _ => 0, fun i hi => ?_⟩
      simp only [dif_pos hi]
      exact (key i hi).choose_spec.choose_spec.choose_spec
    clear key
    refine ⟨some a', len, cap, ks, sl, q, rfl, ?_, hlc, hcm, hin⟩
    rcases Nat.eq_zero_or_pos len with h0 | h0
    · exact .inl h0
    · right
      have hx := (hq 0 h0).1
      have e0 : a'.add (0 * 2) = a' := by
        obtain ⟨b, off, spot⟩ := a'
        simp [Addr.add]
      rw [e0] at hx
      obtain ⟨hs, hb⟩ := cell_nospot hx
      obtain ⟨b, off, spot⟩ := a'
      simp only at hs
      subst hs
      refine ⟨b, off, rfl, hb, fun i hi => ?_⟩
      obtain ⟨k1, k2, k3⟩ := hq i hi
      rw [add_spot] at k1 k2
      exact ⟨k1, by rw [Nat.add_assoc]; exact k2, k3⟩
end
end Go.Proofs.Ytojkeahffabifaa
namespace Go.Proofs.Ytojkeahffabifaa
open Go.ChangeShapes Go.WideShapes Go.Deep Go.RowKit
set_option linter.unusedVariables false
section
variable {H : Type} {enc : TypeId × Value → H} {w : World} {base : Nat} {spare : Nat → Bool} {held : Bool}
theorem ints1 {P : Program} {t : TypeId} (h : P.underlying t = some (.int .i64)) : ∀ u ∈ [t], P.underlying u = some (.int .i64) := by
  intro u hu
  simp only [List.mem_cons, List.not_mem_nil, or_false] at hu
  rw [hu]; exact h
theorem ints2 {P : Program} {t t2 : TypeId} (h : P.underlying t = some (.int .i64)) (h2 : P.underlying t2 = some (.int .i64)) : ∀ u ∈ [t, t2], P.underlying u = some (.int .i64) := by
  intro u hu
  simp only [List.mem_cons, List.not_mem_nil, or_false] at hu
  rcases hu with h3 | h3 <;> rw [h3]
  · exact h
  · exact h2
set_option maxRecDepth 100000 in
theorem open_commitSafe {r : Reach} {b0 : Nat} {v : Value} {d : DataW H} {p : List MemPlace} (hv : Value.okWide Try.prog w r b0 25 v) (h : DataW.Trod enc Try.prog w base spare held 25 v d p) :
    ∃ (n : Int) (mu : Bool) (st : Int) (a0 : Option Addr) (l0 c0 : Nat) (q0 : Nat → Nat → Int) (a1 : Option Addr) (l1 c1 : Nat) (k1 : Nat → Int) (s1 : Nat → Option Addr × Nat × Nat) (q1 : Nat → Nat → Nat → Int) (a2 : Option Addr) (l2 c2 : Nat) (k2 : Nat → Int) (s2 : Nat → Option Addr × Nat × Nat) (q2 : Nat → Nat → Nat → Int),
      v = .agg #[.int .i64 n, .bool mu, .int .i64 st, .slice a0 l0 c0, .slice a1 l1 c1, .slice a2 l2 c2] ∧ Grid w a0 l0 1 q0 ∧ l0 ≤ c0 ∧ c0 ≤ maxLen ∧ Turns w a1 l1 k1 s1 q1 ∧ Turns w a2 l2 k2 s2 q2 ∧ InD d l1 ∧ InD d l2 := by
  obtain ⟨l, rfl, hl, hf⟩ := open_agg (n := 6) (ts := [3, 4, 3, 22, 23, 23]) (.inl ⟨_, Try.underlying25⟩) (by kernel_rfl) hv h
  obtain ⟨fuel, hfu⟩ := h
  match l, hl with
  | [x0, xb, xs, x1, x2, x3], _ =>
    obtain ⟨n, rfl, hn⟩ := leaf_int Try.underlying3 (hf 0 _ x0 rfl rfl)
    obtain ⟨mu, rfl⟩ := leaf_bool Try.underlying4 (hf 1 _ xb rfl rfl)
    obtain ⟨st, rfl, _⟩ := leaf_int Try.underlying3 (hf 2 _ xs rfl rfl)
    obtain ⟨m1, y1, hy1, hin1⟩ := field_in (st := 22) (j := 3) (o := 3) Try.underlying25 (by kernel_rfl) (by kernel_rfl) hfu (v := x1) rfl
    obtain ⟨m2, y2, hy2, hin2⟩ := field_in (st := 23) (j := 4) (o := 4) Try.underlying25 (by kernel_rfl) (by kernel_rfl) hfu (v := x2) rfl
    obtain ⟨m3, y3, hy3, hin3⟩ := field_in (st := 23) (j := 5) (o := 5) Try.underlying25 (by kernel_rfl) (by kernel_rfl) hfu (v := x3) rfl
    obtain ⟨a0, l0, c0, q0, rfl, g1, g2, g3, _, _⟩ := open_gridS (n := 6) (sz := 1) (ts := [3]) Try.underlying22 (by kernel_rfl) (by kernel_rfl) rfl (by decide) (ints1 Try.underlying3) hy1
    obtain ⟨a1, l1, c1, k1, s1, q1, rfl, t1, _, _, i1⟩ := open_turnsS (n := 6) (n2 := 6) (ts := [3, 2]) Try.underlying23 (by kernel_rfl) (by kernel_rfl) Try.underlying3 Try.underlying37 (by kernel_rfl) (by kernel_rfl) rfl (ints2 Try.underlying3 Try.underlying2) hy2
    obtain ⟨a2, l2, c2, k2, s2, q2, rfl, t2, _, _, i2⟩ := open_turnsS (n := 6) (n2 := 6) (ts := [3, 2]) Try.underlying23 (by kernel_rfl) (by kernel_rfl) Try.underlying3 Try.underlying37 (by kernel_rfl) (by kernel_rfl) rfl (ints2 Try.underlying3 Try.underlying2) hy3
    exact ⟨n, mu, st, a0, l0, c0, q0, a1, l1, c1, k1, s1, q1, a2, l2, c2, k2, s2, q2, rfl, g1, g2, g3, t1, t2, hin2 _ i1, hin3 _ i2⟩
set_option maxRecDepth 100000 in
theorem open_commitSoon {r : Reach} {b0 : Nat} {v : Value} {d : DataW H} {p : List MemPlace} (hv : Value.okWide Try.prog w r b0 62 v) (h : DataW.Trod enc Try.prog w base spare held 62 v d p) :
    ∃ (n : Int) (mu : Bool) (st la : Int), v = .agg #[.int .i64 n, .bool mu, .int .i64 st, .int .i64 la] := by
  obtain ⟨l, rfl, hl, hf⟩ := open_agg (n := 6) (ts := [3, 4, 3, 3]) (.inl ⟨_, Try.underlying62⟩) (by kernel_rfl) hv h
  match l, hl with
  | [x0, xb, xs, x1], _ =>
    obtain ⟨n, rfl, _⟩ := leaf_int Try.underlying3 (hf 0 _ x0 rfl rfl)
    obtain ⟨mu, rfl⟩ := leaf_bool Try.underlying4 (hf 1 _ xb rfl rfl)
    obtain ⟨st, rfl, _⟩ := leaf_int Try.underlying3 (hf 2 _ xs rfl rfl)
    obtain ⟨la, rfl, _⟩ := leaf_int Try.underlying3 (hf 3 _ x1 rfl rfl)
    exact ⟨n, mu, st, la, rfl⟩
end
end Go.Proofs.Ytojkeahffabifaa
