/- How arguments are read: structs, arrays and slices of them, cell by cell. Of whatever program. -/
import Derived.ProofKit
import Derived.OpenShut
import Derived.Deep.Slices
import Derived.ChangeSame
namespace Go.Proofs.Ytojkeahffabifaa
open Go.ChangeShapes Go.WideShapes Go.Deep

def flatFs (P : Program) (g : TypeId → Option (List TypeId)) : Nat → List Field → Option (List TypeId)
  | _, [] => some []
  | off, f :: r => (g f.type).bind fun l => if f.offset = off ∧ P.cellsOf f.type = l.length then (flatFs P g (off + l.length) r).map (l ++ ·) else none
/-- The types of a type's cells, one by one. -/
def flat (P : Program) : Nat → TypeId → Option (List TypeId)
  | 0, _ => none
  | n + 1, t => match P.underlying t with
    | some (.struct fs) => (flatFs P (flat P n) 0 fs.toList).bind fun l => if P.cellsOf t = l.length then some l else none
    | some (.array k e) => (flat P n e).bind fun l => if P.cellsOf e = l.length ∧ P.cellsOf t = (List.replicate k l).flatten.length then some (List.replicate k l).flatten else none
    | _ => some [t]

section
variable {H : Type} {enc : TypeId × Value → H} {P : Program} {w : World} {base : Nat} {spare : Nat → Bool} {held : Bool}

theorem trod_single {fuel : Nat} {t : TypeId} {cs : List Value} {x : DataW H × List MemPlace} (hs : ∀ fs, P.underlying t ≠ some (.struct fs)) (ha : ∀ k e, P.underlying t ≠ some (.array k e))
    (h : DataW.trod enc P w base spare held fuel t cs = some x) : cs.length = 1 := by
  cases fuel with
  | zero => simp [DataW.trod] at h
  | succ n =>
    unfold DataW.trod at h
    split at h <;> first | rfl | (exfalso; exact hs _ (by assumption)) | (exfalso; exact ha _ _ (by assumption)) | (simp at h)

/-- A leaf's reading. -/
def Leaf (enc : TypeId × Value → H) (P : Program) (w : World) (base : Nat) (spare : Nat → Bool) (held : Bool) (u : TypeId) (v : Value) : Prop :=
  ∃ m y, DataW.trod enc P w base spare held m u [v] = some y

theorem flatFs_leaves {g : TypeId → Option (List TypeId)} {n : Nat} {cs : List Value}
    (ih : ∀ t ts cs x, g t = some ts → DataW.trod enc P w base spare held n t cs = some x → cs.length = ts.length ∧ ∀ (i : Nat) (u : TypeId) (v : Value), ts[i]? = some u → cs[i]? = some v → Leaf enc P w base spare held u v) :
    ∀ (fs : List Field) (off : Nat) (ts : List TypeId), flatFs P g off fs = some ts →
      (∀ f ∈ fs, ∃ y, DataW.trod enc P w base spare held n f.type ((cs.drop f.offset).take (P.cellsOf f.type)) = some y) →
      ∀ (i : Nat) (u : TypeId) (v : Value), ts[i]? = some u → cs[off + i]? = some v → Leaf enc P w base spare held u v
  | [], off, ts, h, _, i, u, v, hu, _ => by
    simp only [flatFs, Option.some.injEq] at h
    subst h; simp at hu
  | f :: r, off, ts, h, hf, i, u, v, hu, hv => by
    simp only [flatFs, Option.bind_eq_some_iff] at h
    obtain ⟨l, hg, h⟩ := h
    split at h
    · rename_i hc
      simp only [Option.map_eq_some_iff] at h
      obtain ⟨ts', h', rfl⟩ := h
      obtain ⟨y, hy⟩ := hf f (by simp)
      obtain ⟨hl, hleaf⟩ := ih _ _ _ _ hg hy
      by_cases hi : i < l.length
      · refine hleaf i u v ?_ ?_
        · rwa [List.getElem?_append_left hi] at hu
        · rw [List.getElem?_take, if_pos (by omega), List.getElem?_drop, hc.1]; exact hv
      · rw [List.getElem?_append_right (by omega)] at hu
        refine flatFs_leaves ih r (off + l.length) ts' h' (fun f' hf' => hf f' (by simp [hf'])) (i - l.length) u v hu ?_
        rw [show off + l.length + (i - l.length) = off + i by omega]; exact hv
    · cases h
theorem replicate_get {α : Type} (l : List α) : ∀ (k i : Nat) (u : α), (List.replicate k l).flatten[i]? = some u → ∃ q r, q < k ∧ i = q * l.length + r ∧ r < l.length ∧ l[r]? = some u
  | 0, i, u, h => by simp at h
  | k + 1, i, u, h => by
    rw [List.replicate_succ, List.flatten_cons] at h
    by_cases hi : i < l.length
    · rw [List.getElem?_append_left hi] at h
      exact ⟨0, i, by omega, by omega, hi, h⟩
    · rw [List.getElem?_append_right (by omega)] at h
      obtain ⟨q, r, hq, he, hr, hl⟩ := replicate_get l k (i - l.length) u h
      exact ⟨q + 1, r, by omega, by rw [Nat.add_mul]; omega, hr, hl⟩
theorem flat_leaves : ∀ (n : Nat) (t : TypeId) (ts : List TypeId) (fuel : Nat) (cs : List Value) (x : DataW H × List MemPlace), flat P n t = some ts →
    DataW.trod enc P w base spare held fuel t cs = some x → cs.length = ts.length ∧ ∀ (i : Nat) (u : TypeId) (v : Value), ts[i]? = some u → cs[i]? = some v → Leaf enc P w base spare held u v
  | 0, t, ts, fuel, cs, x, h, _ => by simp [flat] at h
  | n + 1, t, ts, fuel, cs, x, h, ht => by
    unfold flat at h
    split at h
    · rename_i fs hu
      simp only [Option.bind_eq_some_iff] at h
      obtain ⟨l, h, h2⟩ := h
      split at h2
      rotate_left
      · cases h2
      rename_i hC
      obtain rfl := Option.some.inj h2
      obtain ⟨xs, m, rfl, hx, hlen, hxl, hg⟩ := DataW.trod_struct hu ht
      refine ⟨hlen.trans hC, ?_⟩
      intro i u v hu' hv
      refine flatFs_leaves (n := m) (g := flat P n) (cs := cs) ?_ fs.toList 0 _ h ?_ i u v hu' (by rw [Nat.zero_add]; exact hv)
      · intro t' ts' cs' x' h1 h2
        exact flat_leaves n t' ts' m cs' x' h1 h2
      · intro f hf
        obtain ⟨j, hj⟩ := List.getElem?_of_mem hf
        have hj' : fs[j]? = some f := by simpa using hj
        have hjl : j < xs.length := by rw [hxl]; exact (Array.getElem?_eq_some_iff.1 hj').1
        exact ⟨xs[j], (hg j f hj').trans (List.getElem?_eq_getElem hjl)⟩
    · rename_i k e hu
      simp only [Option.bind_eq_some_iff] at h
      obtain ⟨l, hl, h⟩ := h
      split at h
      · rename_i hcc
        obtain ⟨hce, hC⟩ := hcc
        obtain rfl := Option.some.inj h
        obtain ⟨xs, m, rfl, hx, hlen, hxl, hg⟩ := DataW.trod_array hu ht
        refine ⟨hlen.trans hC, ?_⟩
        intro i u v hu' hv
        obtain ⟨q, r, hq, rfl, hr, hlr⟩ := replicate_get l k i u hu'
        have h1 := hg q hq
        rw [List.getElem?_eq_getElem (by omega)] at h1
        obtain ⟨_, hleaf⟩ := flat_leaves n e l m _ _ hl h1
        refine hleaf r u v hlr ?_
        rw [List.getElem?_take, if_pos (by omega), List.getElem?_drop, hce]; exact hv
      · cases h
    · rename_i hns hna
      obtain rfl := Option.some.inj h
      have h1 := trod_single (fun fs e => hns fs e) (fun k e he => hna k e he) ht
      refine ⟨h1, ?_⟩
      intro i u v hu hv
      match i, cs, h1 with
      | 0, [c], _ =>
        simp at hu hv
        subst hu; subst hv
        exact ⟨fuel, x, ht⟩
      | i + 1, _, _ => simp at hu
theorem leaf_int {u : TypeId} {v : Value} {k : IntKind} (hu : P.underlying u = some (.int k)) (h : Leaf enc P w base spare held u v) : ∃ n, v = .int k n ∧ (Lit.int k n).wf = true := by
  obtain ⟨m, y, hy⟩ := h
  obtain ⟨n, hc, _, hw⟩ := DataW.trod_int hu hy
  exact ⟨n, by simpa using hc, hw⟩
theorem leaf_bool {u : TypeId} {v : Value} (hu : P.underlying u = some .bool) (h : Leaf enc P w base spare held u v) : ∃ b, v = .bool b := by
  obtain ⟨m, y, hy⟩ := h
  cases m with
  | zero => simp [DataW.trod] at hy
  | succ m =>
    unfold DataW.trod at hy
    rw [hu] at hy
    split at hy <;> simp_all
/-- A struct or an array by value, cell by cell. -/
theorem open_agg {r : Reach} {b0 n : Nat} {t : TypeId} {ts : List TypeId} {v : Value} {d : DataW H} {p : List MemPlace} (hs : (∃ fs, P.underlying t = some (.struct fs)) ∨ (∃ k e, P.underlying t = some (.array k e)))
    (hfl : flat P n t = some ts) (hv : Value.okWide P w r b0 t v) (h : DataW.Trod enc P w base spare held t v d p) :
    ∃ l : List Value, v = .agg l.toArray ∧ l.length = ts.length ∧ ∀ (i : Nat) (u : TypeId) (x : Value), ts[i]? = some u → l[i]? = some x → Leaf enc P w base spare held u x := by
  have hcs : ∃ cs, v = .agg cs := by
    rcases hs with ⟨fs, hs⟩ | ⟨k, e, hs⟩
    · simp only [Value.okWide, hs] at hv
      obtain ⟨cs, hc, _⟩ := hv; exact ⟨cs, hc⟩
    · simp only [Value.okWide, hs] at hv
      obtain ⟨cs, hc, _⟩ := hv; exact ⟨cs, hc⟩
  obtain ⟨cs, rfl⟩ := hcs
  obtain ⟨fuel, hf⟩ := h
  obtain ⟨h1, h2⟩ := flat_leaves n t ts fuel _ _ hfl hf
  exact ⟨cs.toList, rfl, h1, h2⟩
end
end Go.Proofs.Ytojkeahffabifaa
namespace Go.Proofs.Ytojkeahffabifaa
open Go.ChangeShapes Go.WideShapes Go.Deep
section
variable {H : Type} {enc : TypeId × Value → H} {P : Program} {w : World} {base : Nat} {spare : Nat → Bool} {held : Bool}
/-- A slice of elements of sz integers each: the numbers are q i j. -/
def Grid (w : World) (a : Option Addr) (len sz : Nat) (q : Nat → Nat → Int) : Prop :=
  len = 0 ∨ ∃ b off, a = some ⟨b, off, none⟩ ∧ b < w.heap.size ∧ ∀ i, i < len → ∀ j, j < sz → w.cell? ⟨b, off + i * sz + j, none⟩ = some (.int .i64 (q i j))
theorem Grid.below {w w' : World} {a : Option Addr} {len sz : Nat} {q : Nat → Nat → Int} (h : Grid w a len sz q) (hb : Go.RowKit.Below w.heap.size w w') : Grid w' a len sz q :=
  h.elim .inl fun ⟨b, off, e, hlt, hc⟩ => .inr ⟨b, off, e, Nat.lt_of_lt_of_le hlt hb.size, fun i hi j hj => (hb.cell (p := ⟨b, off + i * sz + j, none⟩) hlt).trans (hc i hi j hj)⟩
theorem cell_nospot {w : World} {a : Addr} {v : Value} (h : w.cell? a = some v) : a.spot = none ∧ a.block < w.heap.size := by
  refine ⟨?_, World.block_lt_of_cell? w _ h⟩
  obtain ⟨b, off, spot⟩ := a
  cases spot with
  | none => rfl
  | some k =>
    exfalso
    unfold World.cell? at h
    split at h
    · simp at h
    · cases h
theorem add_spot (b off : Nat) (i : Nat) : (Addr.mk b off none).add i = ⟨b, off + i, none⟩ := by
  unfold Addr.add
  split <;> simp_all
theorem open_grid {r : Reach} {b0 n sz : Nat} {t e : TypeId} {ts : List TypeId} {v : Value} {d : DataW H} {p : List MemPlace} (ht : P.underlying t = some (.slice e)) (hfl : flat P n e = some ts)
    (hC : P.cellsOf e = sz) (hts : ts.length = sz) (hsz : 0 < sz) (hint : ∀ u ∈ ts, P.underlying u = some (.int .i64)) (hv : Value.okWide P w r b0 t v) (h : DataW.Trod enc P w base spare held t v d p) :
    ∃ a len cap q, v = .slice a len cap ∧ Grid w a len sz q ∧ len ≤ cap ∧ cap ≤ maxLen ∧ ∀ i j, (Lit.int .i64 (q i j)).wf = true := by
  obtain ⟨a, len, cap, rfl⟩ := okWide_slice ht hv
  obtain ⟨fuel, hf⟩ := h
  rcases open_slice ht hf with ⟨he, _⟩ | ⟨a', len', cap', m, n', D, Pl, he, _, hlc, hcm, hm, _, hel⟩
  · simp only [Value.cells, List.cons.injEq, and_true, Value.slice.injEq] at he
    obtain ⟨rfl, rfl, rfl⟩ := he
    exact ⟨none, 0, 0, fun _ _ => 0, rfl, .inl rfl, Nat.le_refl _, Nat.zero_le _, fun _ _ => rfl⟩
  · simp only [Value.cells, List.cons.injEq, and_true, Value.slice.injEq] at he
    obtain ⟨rfl, rfl, rfl⟩ := he
    have hge : len ≤ m := by rw [hm]; split <;> omega
    have key : ∀ i, i < len → ∀ j, j < sz → ∃ x, w.cell? (a'.add (i * sz + j)) = some (.int .i64 x) ∧ (Lit.int .i64 x).wf = true := by
      intro i hi j hj
      obtain ⟨cs', hcs, htr⟩ := hel i (by omega)
      obtain ⟨_, hlen, hat⟩ := World.cells?_some hcs
      obtain ⟨hl2, hleaf⟩ := flat_leaves n e ts n' cs' _ hfl htr
      rw [hC] at hlen hat
      have hu : ts[j]? = some (ts[j]'(by omega)) := List.getElem?_eq_getElem (by omega)
      have hx : cs'[j]? = some (cs'[j]'(by omega)) := List.getElem?_eq_getElem (by omega)
      obtain ⟨x, hxv, hw⟩ := leaf_int (hint _ (List.getElem_mem _)) (hleaf j _ _ hu hx)
      refine ⟨x, ?_, hw⟩
      rw [← Go.Deep.add_add, hat j hj, hx, hxv]
    obtain ⟨q, hq, hw⟩ : ∃ q : Nat → Nat → Int, (∀ i, i < len → ∀ j, j < sz → w.cell? (a'.add (i * sz + j)) = some (.int .i64 (q i j))) ∧ ∀ i j, (Lit.int .i64 (q i j)).wf = true := by
      refine ⟨fun i j => if h : i < len ∧ j < sz then (key i h.1 j h.2).choose else 0, fun i hi j hj => ?_, fun i j => ?_⟩
      · simp only [dif_pos (And.intro hi hj)]
        exact (key i hi j hj).choose_spec.1
      · dsimp only
        split
        · rename_i h
          exact (key i h.1 j h.2).choose_spec.2
        · rfl
    clear key
    refine ⟨some a', len, cap, q, rfl, ?_, hlc, hcm, hw⟩
    rcases Nat.eq_zero_or_pos len with h0 | h0
    · exact .inl h0
    · right
      have hx := hq 0 h0 0 hsz
      have e0 : a'.add (0 * sz + 0) = a' := by
        obtain ⟨b, off, spot⟩ := a'
        simp [Addr.add]
      rw [e0] at hx
      obtain ⟨hs, hb⟩ := cell_nospot hx
      obtain ⟨b, off, spot⟩ := a'
      simp only at hs
      subst hs
      refine ⟨b, off, rfl, hb, fun i hi j hj => ?_⟩
      have hk := hq i hi j hj
      rw [add_spot] at hk
      rw [Nat.add_assoc]
      exact hk
end
end Go.Proofs.Ytojkeahffabifaa
