/- Helpers of the walk of SigGroups. -/
import Derived.Test.YtcnkoiogfhggeaaDoorC2w
import Derived.Test.YtcnkoiogfhggeaaDoorC2p
import Derived.Test.YtcnkoiogfhggeaaDoorS2m
import Derived.Test.YtcnkoiogfhggeaaDoorM2
import Derived.Test.YtcnkoiogfhggeaaDoorR2g
import Derived.Laws.MakeOwn
namespace Go.Proofs.YtcnkoiogfhggeaaDoor
open Go.RowKit
set_option linter.unusedVariables false
theorem run_copy_into {P : Program} (w : World) (dT sT ty e : TypeId) (i : TypeInfo) (sz : Nat) (hu : P.underlying dT = some (.slice e)) (hi : P.info? e = some i) (hsz : i.size = sz)
    (g n m c m' : Nat) (hnm : n ≤ m) (cur : Array Value) (T : TypeId) (hg : w.heap[g]? = some (.cells cur T)) (hcs : n * sz ≤ cur.size) (a : Option Addr) (xs : List Value) (hl : xs.length = n * sz) (hs : n ≠ 0 → ∃ ad, a = some ad ∧ ∀ j v, xs[j]? = some v → w.cell? (ad.add j) = some v) (h1 : ∀ v ∈ xs, v.oneCell' = true) :
    ∃ w', (Builtin.copy_ #[dT, sT] ty #[.slice (some ⟨g, 0, none⟩) m m', .slice a n c]).run P w = .ok (goInt n) w' ∧ w'.heap[g]? = some (.cells (xs ++ cur.toList.drop (n * sz)).toArray T) ∧ w.grownBy w' (some g) := by
  subst hsz
  have hgr : w.grownBy w (some g) := ⟨rfl, rfl, rfl, Nat.le_refl _, fun _ _ _ => rfl⟩
  have hmin : min n m = n := Nat.min_eq_left hnm
  by_cases h0 : n = 0
  · subst h0
    obtain rfl : xs = [] := List.eq_nil_of_length_eq_zero (by omega)
    refine ⟨w, ?_, by simpa using hg, hgr⟩
    cases a with
    | none => simp [Builtin.copy_, run_underlying hu, Builtin.lenOf, Builtin.firstCells, sizeOf, typeInfo, hi, storeCells]
    | some ad =>
      have hl0 := run_loadCells_list (P := P) w ad [] (fun j v h => by simp at h)
      simp only [List.length_nil] at hl0
      simp [Builtin.copy_, run_underlying hu, Builtin.lenOf, Builtin.firstCells, sizeOf, typeInfo, hi, hl0, storeCells]
  · obtain ⟨ad, rfl, hsrc⟩ := hs h0
    have hf := run_firstCells_some (P := P) w i.size n ad n c xs hl hsrc
    have hst := run_storeCells_at P g 0 T xs 0 cur w hg (by omega) h1
    refine ⟨w.setRow g (cur.toList.take (0 + 0) ++ xs ++ cur.toList.drop (0 + 0 + xs.length)).toArray, ?_, ?_, ⟨rfl, rfl, rfl, by simp [World.setRow], fun k _ hk => setRow_other w g k _ (fun e => hk (by simp [e]))⟩⟩
    · simp [Builtin.copy_, run_underlying hu, Builtin.lenOf, sizeOf, typeInfo, hi, hmin, hf, hst]
    · rw [setRow_heap w g cur _ T _ hg, ← hl]
      simp
theorem infoSigG : (Tryd.prog.info? 25).map (fun i => (i.zero, i.size, i.bytes)) = some (some (.agg #[.int .u64 0, .int .u64 0, .int .u64 0, .int .u64 0, .int .u64 0, .int .u64 0, .int .u64 0, .int .u64 0]), 8, 64) := by kernel_rfl
theorem makeSig (n : Nat) (hn : n ≤ 2199023255552) : ∃ cs : Array Value, cs.size = n * 8 ∧ ∀ w : World, (Instr.makeSlice 37 (.int .i64 n) (.int .i64 n)).run Tryd.prog w = .ok (.slice (some ⟨w.heap.size, 0, none⟩) n n) (w.alloc (.cells cs 25)) := by
  obtain ⟨i0, hi, hI0, hI1, hI2⟩ := info_parts infoSigG
  refine ⟨madeCells #[.int .u64 0, .int .u64 0, .int .u64 0, .int .u64 0, .int .u64 0, .int .u64 0, .int .u64 0, .int .u64 0] (n * 8), size_madeCells _ _, fun w => ?_⟩
  have h := run_make (P := Tryd.prog) w 37 25 i0 _ Tryd.underlying37 hi hI0 .i64 .i64 n n (by omega) (Int.le_refl _) (by rw [hI2]; omega) (by omega)
  rw [hI1] at h
  simp only [Int.toNat_natCast] at h
  exact h
/-- The cells of a list of signatures. -/
def sigCs (q : Nat → Nat → Int) (n : Nat) : List Value := (List.range (n * 8)).map fun i => .int .u64 (q (i / 8) (i % 8))
theorem sigCs_len (q : Nat → Nat → Int) (n : Nat) : (sigCs q n).length = n * 8 := by simp [sigCs]
theorem sigCs_get {q : Nat → Nat → Int} {n k : Nat} (h : k < n * 8) : (sigCs q n)[k]? = some (.int .u64 (q (k / 8) (k % 8))) := by simp [sigCs, h]
theorem sigCs_one (q : Nat → Nat → Int) (n : Nat) : ∀ v ∈ sigCs q n, v.oneCell' = true := by
  intro v hv
  obtain ⟨i, _, rfl⟩ := List.mem_map.1 hv
  rfl
theorem sigs_src {w : World} {a : Option Addr} {len : Nat} {q : Nat → Nat → Int} (h : SigsAt w a len q) (h0 : len ≠ 0) : ∃ ad, a = some ad ∧ ∀ j v, (sigCs q len)[j]? = some v → w.cell? (ad.add j) = some v := by
  obtain ⟨b, off, rfl, _, hc⟩ := h.resolve_left h0
  refine ⟨_, rfl, fun j v hj => ?_⟩
  have hjl := (List.getElem?_eq_some_iff.1 hj).1
  rw [sigCs_len] at hjl
  have e2 : (⟨b, off, none⟩ : Addr).add j = ⟨b, off + j, none⟩ := by unfold Addr.add; split <;> simp_all
  rw [sigCs_get hjl] at hj
  have h1 := hc (j / 8) (by omega) (j % 8) (by omega)
  rw [show off + j / 8 * 8 + j % 8 = off + j by omega] at h1
  rw [e2, h1, hj]
theorem sigs_made {w : World} {b len : Nat} {q : Nat → Nat → Int} {rest : List Value} {T : TypeId} (h : w.heap[b]? = some (.cells (sigCs q len ++ rest).toArray T)) : SigsAt w (some ⟨b, 0, none⟩) len q := by
  right
  refine ⟨b, 0, rfl, heap_lt h, fun i hi j hj => ?_⟩
  have hk : 0 + i * 8 + j < len * 8 := by omega
  have h1 := sigCs_get (q := q) hk
  rw [show (0 + i * 8 + j) / 8 = i by omega, show (0 + i * 8 + j) % 8 = j by omega] at h1
  have h2 : (sigCs q len ++ rest)[0 + i * 8 + j]? = some (.int .u64 (q i j)) := by
    rw [List.getElem?_append_left (by rw [sigCs_len]; exact hk)]
    exact h1
  simp only [World.cell?, h]
  simpa using h2
theorem atw_open {B : HP} (gb : Good B) {w0 wr : World} {v : Value} {gs : List (List Int)} (h : AtW w0 (Star (RowsH v gs) B) wr) :
    ∃ FA xs, RowsAt wr v gs xs ∧ (∀ b, FA b ↔ blkR v xs b) ∧ ∀ w' A', Stp wr w' FA A' → AtW w0 (Star A' B) w' := by
  obtain ⟨F, ⟨FA, FB, ⟨xs, hR, hF⟩, hb, hFF, hd⟩, hbel, hlt⟩ := h
  exact ⟨FA, xs, hR, hF, fun w' A' hs => AtW.stp hbel hlt (hs.left gb hb hFF hd)⟩
theorem atw_right {A : HP} {w0 wr : World} {v : Value} {gs : List (List Int)} (h : AtW w0 (Star A (RowsH v gs)) wr) : ∃ xs, RowsAt wr v gs xs := by
  obtain ⟨F, ⟨FA, FB, _, ⟨xs, hR, _⟩, _⟩, _⟩ := h
  exact ⟨xs, hR⟩
theorem atw_rows {w0 wr : World} {v : Value} {gs : List (List Int)} (h : AtW w0 (RowsH v gs) wr) : ∃ xs, RowsAt wr v gs xs := by
  obtain ⟨F, ⟨xs, hR, _⟩, _⟩ := h
  exact ⟨xs, hR⟩
theorem grpZ_small {q : Nat → Nat → Int} {n k : Nat} {g : List Int} (h : (grpZ q n)[k]? = some g) : g.length ≤ n := by
  unfold grpZ at h
  rw [List.getElem?_map] at h
  cases hg : (groupsG (sameQ q) n)[k]? with
  | none => rw [hg] at h; cases h
  | some g' =>
    rw [hg] at h
    obtain rfl := Option.some.inj h
    simpa using groupsG_each _ _ g' (List.mem_of_getElem? hg)
theorem row_look {w : World} {a : Option Addr} {n c k : Nat} {gs : List (List Int)} {xs : List Value} {g : List Int} (h : RowsAt w (.slice a n c) gs xs) (hk : gs[k]? = some g) {l : Nat} (hl : g.length = l) :
    ∃ b x xc, a = some ⟨b, 0, none⟩ ∧ xs[k]? = some (.slice x l xc) ∧ w.cell? ⟨b, k, none⟩ = some (.slice x l xc) ∧ w.frozen? ⟨b, k, none⟩ = false ∧ w.ownsRow 0 3 1 (.slice x l xc) l (intV g) := by
  subst hl
  obtain ⟨b, c', x, hv, h1, h2, h3, h4⟩ := rows_at h hk
  obtain ⟨xa, xc, rfl⟩ := ownAt_form h4
  simp only [Value.slice.injEq] at hv
  exact ⟨b, xa, xc, hv.1, h3, h1, h2, h4⟩
theorem int_look {w : World} {x : Option Addr} {l xc m : Nat} {g : List Int} {z : Int} (h : w.ownsRow 0 3 1 (.slice x l xc) l (intV g)) (hm : g[m]? = some z) :
    ∃ bx, x = some ⟨bx, 0, none⟩ ∧ w.cell? ⟨bx, m, none⟩ = some (.int .i64 z) ∧ w.frozen? ⟨bx, m, none⟩ = false := by
  have hml := (List.getElem?_eq_some_iff.1 hm).1
  have hl : l = g.length := by have := h.1; simp [intV] at this; omega
  obtain ⟨bx, c', hv, _, _, hc, hf, _⟩ := own_parts h (by omega)
  simp only [Value.slice.injEq] at hv
  refine ⟨bx, hv.1, (hc m (by omega)).trans ?_, hf m⟩
  unfold intV
  rw [List.getElem?_map, hm]
  rfl
theorem wpL_int1n {w : World} {ops : Array Oper} {rest : List Oper} {o : Oper} {a : Act} {Q : Exit → Act → World → Prop} (hgd : o.guard = none) (s x : Operand)
    (ho : o.op = .call { callee := .builtin .append, args := #[s, x], argTypes := #[22, 22] }) {v : Value} {z : Int} {b n : Nat} {g : List Int} (hs : a.eval s = v) (hown : w.ownsRow 0 3 1 v n (intV g))
    (hx : a.eval x = .slice (some ⟨b, 0, none⟩) 1 1) (hc : w.cell? ⟨b, 0, none⟩ = some (.int .i64 z)) (hn : n ≤ 2199023255552)
    (h : ∀ xa xc w', w'.ownsRow 0 3 1 (.slice xa (n + 1) xc) (g ++ [z]).length (intV (g ++ [z])) → w.grownBy w' v.ownBlock → ((Value.slice xa (n + 1) xc).ownBlock = v.ownBlock ∨ (Value.slice xa (n + 1) xc).ownBlock = some w.heap.size) → wpList Tryd.prog ops Q rest (a.put o.dst (.slice xa (n + 1) xc)) w') : wpList Tryd.prog ops Q (o :: rest) a w := by
  have hl : n = g.length := by have := hown.1; simp [intV] at this; omega
  subst hl
  exact wpL_int1 hgd s x ho hs hown hx hc hn h
end Go.Proofs.YtcnkoiogfhggeaaDoor
