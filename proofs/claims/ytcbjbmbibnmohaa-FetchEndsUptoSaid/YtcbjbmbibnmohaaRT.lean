/- How a list of turns is read: a number and a list of writes each. -/
import Derived.Test.YtcbjbmbibnmohaaR8
import Derived.Test.YtcbjbmbibnmohaaProg
namespace Go.Proofs.Ytcbjbmbibnmohaa
open Go.ChangeShapes Go.WideShapes Go.Deep Go.RowKit
set_option linter.unusedVariables false
/-- Turns: a number, a list of writes each. -/
def Turns (w : World) (a : Option Addr) (len : Nat) (ks : Nat → Int) (sl : Nat → Option Addr × Nat × Nat) (q : Nat → Nat → Nat → Int) : Prop :=
  len = 0 ∨ ∃ b off, a = some ⟨b, off, none⟩ ∧ b < w.heap.size ∧ ∀ i, i < len → w.cell? ⟨b, off + i * 2, none⟩ = some (.int .i64 (ks i)) ∧ w.cell? ⟨b, off + i * 2 + 1, none⟩ = some (.slice (sl i).1 (sl i).2.1 (sl i).2.2) ∧ Grid w (sl i).1 (sl i).2.1 2 (q i) ∧ (sl i).2.1 ≤ (sl i).2.2 ∧ (sl i).2.2 ≤ maxLen ∧ (Lit.int .i64 (ks i)).wf = true ∧ ∀ j k, (Lit.int .i64 (q i j k)).wf = true
theorem Turns.below {w w' : World} {a : Option Addr} {len : Nat} {ks : Nat → Int} {sl : Nat → Option Addr × Nat × Nat} {q : Nat → Nat → Nat → Int} (h : Turns w a len ks sl q) (hb : Go.RowKit.Below w.heap.size w w') : Turns w' a len ks sl q :=
  h.elim .inl fun ⟨b, off, e, hlt, hc⟩ => .inr ⟨b, off, e, Nat.lt_of_lt_of_le hlt hb.size, fun i hi => ⟨(hb.cell (p := ⟨b, off + i * 2, none⟩) hlt).trans (hc i hi).1, (hb.cell (p := ⟨b, off + i * 2 + 1, none⟩) hlt).trans (hc i hi).2.1, (hc i hi).2.2.1.below hb, (hc i hi).2.2.2⟩⟩
section
variable {H : Type} {P : Program} {enc : TypeId × Value → H} {w : World} {base : Nat} {spare : Nat → Bool} {held : Bool}
theorem open_turnsS {n n2 : Nat} {t e ti lt wt : TypeId} {ts : List TypeId} {v : Value} {fuel : Nat} {y : DataW H × List MemPlace} (ht : P.underlying t = some (.slice e)) (hfl : flat P n e = some [ti, lt]) (hC : P.cellsOf e = 2)
    (hti : P.underlying ti = some (.int .i64)) (hlt : P.underlying lt = some (.slice wt)) (hfw : flat P n2 wt = some ts) (hCw : P.cellsOf wt = 2) (hts : ts.length = 2) (hint : ∀ u ∈ ts, P.underlying u = some (.int .i64))
    (hf : DataW.trod enc P w base spare held fuel t [v] = some y) :
    ∃ a len cap ks sl q, v = .slice a len cap ∧ Turns w a len ks sl q ∧ len ≤ cap ∧ cap ≤ maxLen ∧ InD y.1 len := by
  rcases open_slice ht hf with ⟨he, hy⟩ | ⟨a', len, cap, m, n', D, Pl, he, _, hlc, hcm, hm, hy, hel⟩
  · simp only [List.cons.injEq, and_true] at he
    subst he
    exact ⟨none, 0, 0, fun _ => 0, fun _ => (none, 0, 0), fun _ _ _ => 0, rfl, .inl rfl, Nat.le_refl _, Nat.zero_le _, .zero _⟩
  · simp only [List.cons.injEq, and_true] at he
    subst he
    have hin : InD y.1 len := by
      rw [hy]
      have := InD.slice ((List.range len).map D) ((List.range (m - len)).map fun j => D (len + j))
      simpa using this
    have hge : len ≤ m := by rw [hm]; split <;> omega
    have key : ∀ i, i < len → ∃ (x : Int) (s : Option Addr × Nat × Nat) (q : Nat → Nat → Int), w.cell? (a'.add (i * 2)) = some (.int .i64 x) ∧ w.cell? (a'.add (i * 2 + 1)) = some (.slice s.1 s.2.1 s.2.2) ∧ Grid w s.1 s.2.1 2 q ∧ s.2.1 ≤ s.2.2 ∧ s.2.2 ≤ maxLen ∧ (Lit.int .i64 x).wf = true ∧ ∀ j k, (Lit.int .i64 (q j k)).wf = true := by
      intro i hi
      obtain ⟨cs', hcs, htr⟩ := hel i (by omega)
      obtain ⟨_, hlen, hat⟩ := World.cells?_some hcs
      obtain ⟨hl2, hleaf⟩ := flat_leaves n e _ n' cs' _ hfl htr
      rw [hC] at hlen hat
      match cs', hl2 with
      | [x0, x1], _ =>
        obtain ⟨x, rfl, hw⟩ := leaf_int hti (hleaf 0 _ x0 rfl rfl)
        obtain ⟨m1, y1, hy1⟩ := hleaf 1 _ x1 rfl rfl
        obtain ⟨a, ln, cp, q, rfl, g1, g2, g3, g4, _⟩ := open_gridS hlt hfw hCw hts (by decide) hint hy1
        have h0 := hat 0 (by omega)
        have h1 := hat 1 (by omega)
        rw [Go.Deep.add_add] at h0 h1
        exact ⟨x, (a, ln, cp), q, by simpa using h0, by simpa using h1, g1, g2, g3, hw, g4⟩
    obtain ⟨ks, sl, q, hq⟩ : ∃ (ks : Nat → Int) (sl : Nat → Option Addr × Nat × Nat) (q : Nat → Nat → Nat → Int), ∀ i, i < len → w.cell? (a'.add (i * 2)) = some (.int .i64 (ks i)) ∧ w.cell? (a'.add (i * 2 + 1)) = some (.slice (sl i).1 (sl i).2.1 (sl i).2.2) ∧ Grid w (sl i).1 (sl i).2.1 2 (q i) ∧ (sl i).2.1 ≤ (sl i).2.2 ∧ (sl i).2.2 ≤ maxLen ∧ (Lit.int .i64 (ks i)).wf = true ∧ ∀ j k, (Lit.int .i64 (q i j k)).wf = true := by
      refine ⟨fun i => if h : i < len then (key i h).choose else 0, fun i => if h : i < len then (key i h).choose_spec.choose else (none, 0, 0), fun i => if h : i < len then (key i h).choose_spec.choose_spec.choose else fun _ _ => 0, fun i hi => ?_⟩
      simp only [dif_pos hi]
      exact (key i hi).choose_spec.choose_spec.choose_spec
    clear key
    refine ⟨some a', len, cap, ks, sl, q, rfl, ?_, hlc, hcm, hin⟩
    rcases Nat.eq_zero_or_pos len with h0 | h0
    · exact .inl h0
    · right
      have hx := (hq 0 h0).1
      have e0 : a'.add (0 * 2) = a' := by
        obtain ⟨b, off, spot⟩ := a'
        simp [Addr.add]
      rw [e0] at hx
      obtain ⟨hs, hb⟩ := cell_nospot hx
      obtain ⟨b, off, spot⟩ := a'
      simp only at hs
      subst hs
      refine ⟨b, off, rfl, hb, fun i hi => ?_⟩
      obtain ⟨k1, k2, k3⟩ := hq i hi
      rw [add_spot] at k1 k2
      exact ⟨k1, by rw [Nat.add_assoc]; exact k2, k3⟩
end
end Go.Proofs.Ytcbjbmbibnmohaa
namespace Go.Proofs.Ytcbjbmbibnmohaa
open Go.ChangeShapes Go.WideShapes Go.Deep Go.RowKit
set_option linter.unusedVariables false
section
variable {H : Type} {enc : TypeId × Value → H} {w : World} {base : Nat} {spare : Nat → Bool} {held : Bool}
theorem ints1 {P : Program} {t : TypeId} (h : P.underlying t = some (.int .i64)) : ∀ u ∈ [t], P.underlying u = some (.int .i64) := by
  intro u hu
  simp only [List.mem_cons, List.not_mem_nil, or_false] at hu
  rw [hu]; exact h
theorem ints2 {P : Program} {t t2 : TypeId} (h : P.underlying t = some (.int .i64)) (h2 : P.underlying t2 = some (.int .i64)) : ∀ u ∈ [t, t2], P.underlying u = some (.int .i64) := by
  intro u hu
  simp only [List.mem_cons, List.not_mem_nil, or_false] at hu
  rcases hu with h3 | h3 <;> rw [h3]
  · exact h
  · exact h2
set_option maxRecDepth 100000 in
theorem open_fetchTells {r : Reach} {b0 : Nat} {v : Value} {d : DataW H} {p : List MemPlace} (hv : Value.okWide Try.prog w r b0 24 v) (h : DataW.Trod enc Try.prog w base spare held 24 v d p) :
    ∃ (n o c : Int) (a1 : Option Addr) (l1 c1 : Nat) (k1 : Nat → Int) (s1 : Nat → Option Addr × Nat × Nat) (q1 : Nat → Nat → Nat → Int) (a2 : Option Addr) (l2 c2 : Nat) (k2 : Nat → Int) (s2 : Nat → Option Addr × Nat × Nat) (q2 : Nat → Nat → Nat → Int),
      v = .agg #[.int .i64 n, .int .i64 o, .int .i64 c, .slice a1 l1 c1, .slice a2 l2 c2] ∧ Turns w a1 l1 k1 s1 q1 ∧ Turns w a2 l2 k2 s2 q2 ∧ InD d l1 ∧ InD d l2 := by
  obtain ⟨l, rfl, hl, hf⟩ := open_agg (n := 6) (ts := [3, 3, 3, 22, 22]) (.inl ⟨_, Try.underlying24⟩) (by kernel_rfl) hv h
  obtain ⟨fuel, hfu⟩ := h
  match l, hl with
  | [x0, x1, x2, x3, x4], _ =>
    obtain ⟨n, rfl, _⟩ := leaf_int Try.underlying3 (hf 0 _ x0 rfl rfl)
    obtain ⟨o, rfl, _⟩ := leaf_int Try.underlying3 (hf 1 _ x1 rfl rfl)
    obtain ⟨c, rfl, _⟩ := leaf_int Try.underlying3 (hf 2 _ x2 rfl rfl)
    obtain ⟨m1, y1, hy1, hin1⟩ := field_in (st := 22) (j := 3) (o := 3) Try.underlying24 (by kernel_rfl) (by kernel_rfl) hfu (v := x3) rfl
    obtain ⟨m2, y2, hy2, hin2⟩ := field_in (st := 22) (j := 4) (o := 4) Try.underlying24 (by kernel_rfl) (by kernel_rfl) hfu (v := x4) rfl
    obtain ⟨a1, l1, c1, k1, s1, q1, rfl, t1, _, _, i1⟩ := open_turnsS (n := 6) (n2 := 6) (ts := [3, 2]) Try.underlying22 (by kernel_rfl) (by kernel_rfl) Try.underlying3 Try.underlying36 (by kernel_rfl) (by kernel_rfl) rfl (ints2 Try.underlying3 Try.underlying2) hy1
    obtain ⟨a2, l2, c2, k2, s2, q2, rfl, t2, _, _, i2⟩ := open_turnsS (n := 6) (n2 := 6) (ts := [3, 2]) Try.underlying22 (by kernel_rfl) (by kernel_rfl) Try.underlying3 Try.underlying36 (by kernel_rfl) (by kernel_rfl) rfl (ints2 Try.underlying3 Try.underlying2) hy2
    exact ⟨n, o, c, a1, l1, c1, k1, s1, q1, a2, l2, c2, k2, s2, q2, rfl, t1, t2, hin1 _ i1, hin2 _ i2⟩
set_option maxRecDepth 100000 in
theorem open_fetchEnds {r : Reach} {b0 : Nat} {v : Value} {d : DataW H} {p : List MemPlace} (hv : Value.okWide Try.prog w r b0 56 v) (h : DataW.Trod enc Try.prog w base spare held 56 v d p) :
    ∃ (n o c : Int) (a1 : Option Addr) (l1 c1 : Nat) (k1 : Nat → Int) (s1 : Nat → Option Addr × Nat × Nat) (q1 : Nat → Nat → Nat → Int),
      v = .agg #[.int .i64 n, .int .i64 o, .int .i64 c, .slice a1 l1 c1] ∧ Turns w a1 l1 k1 s1 q1 ∧ InD d l1 := by
  obtain ⟨l, rfl, hl, hf⟩ := open_agg (n := 6) (ts := [3, 3, 3, 22]) (.inl ⟨_, Try.underlying56⟩) (by kernel_rfl) hv h
  obtain ⟨fuel, hfu⟩ := h
  match l, hl with
  | [x0, x1, x2, x3], _ =>
    obtain ⟨n, rfl, _⟩ := leaf_int Try.underlying3 (hf 0 _ x0 rfl rfl)
    obtain ⟨o, rfl, _⟩ := leaf_int Try.underlying3 (hf 1 _ x1 rfl rfl)
    obtain ⟨c, rfl, _⟩ := leaf_int Try.underlying3 (hf 2 _ x2 rfl rfl)
    obtain ⟨m1, y1, hy1, hin1⟩ := field_in (st := 22) (j := 3) (o := 3) Try.underlying56 (by kernel_rfl) (by kernel_rfl) hfu (v := x3) rfl
    obtain ⟨a1, l1, c1, k1, s1, q1, rfl, t1, _, _, i1⟩ := open_turnsS (n := 6) (n2 := 6) (ts := [3, 2]) Try.underlying22 (by kernel_rfl) (by kernel_rfl) Try.underlying3 Try.underlying36 (by kernel_rfl) (by kernel_rfl) rfl (ints2 Try.underlying3 Try.underlying2) hy1
    exact ⟨n, o, c, a1, l1, c1, k1, s1, q1, rfl, t1, hin1 _ i1⟩
end
end Go.Proofs.Ytcbjbmbibnmohaa
