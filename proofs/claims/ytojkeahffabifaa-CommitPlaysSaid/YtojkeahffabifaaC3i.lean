/- Layer 3: two equal accesses; the program's Log from 0 on. -/
import Derived.Test.YtojkeahffabifaaC3h
import Derived.Test.YtojkeahffabifaaAW
import Derived.DeepKeys
namespace Go.Proofs.Ytojkeahffabifaa
open Go.RowKit
set_option linter.unusedVariables false
def accV (x : Acc) : Value := .agg #[.int .i64 x.th, .int .i64 x.kd, .int .i64 x.ak, .int .i64 x.ai, .int .i64 x.aj, .int .i64 x.old, .int .i64 x.val, .bool x.yes]
theorem eqF3_nil (d : Nat) (xs ys : Array Value) (w : World) : (Op.eqFields d xs ys []).run Try.prog w = .ok true w := by simp [Op.eqFields]
/-- A field whose parts are known and alike. -/
theorem eqF3_step {d : Nat} {xs ys : Array Value} {f : Field} {fs : List Field} {a : Value} {w : World} (hn : f.name ≠ "_") (hx : (part f.type xs f.offset).run Try.prog w = .ok a w) (hy : (part f.type ys f.offset).run Try.prog w = .ok a w)
    (he : (Op.equalIn d f.type a a).run Try.prog w = .ok true w) (h : (Op.eqFields d xs ys fs).run Try.prog w = .ok true w) : (Op.eqFields d xs ys (f :: fs)).run Try.prog w = .ok true w := by
  simp only [Op.eqFields]
  rw [if_pos (by simpa using hn)]
  simp only [Sem.run_bind, hx, hy, Result.andThen_ok, he]
  simpa using h
theorem eqF3_int {d : Nat} {xs : Array Value} {f : Field} {fs : List Field} {a : Int} {w : World} (h0 : (f.name != "_", Try.prog.plainKey f.type, Try.prog.underlying f.type) = (true, true, some (.int .i64))) (hx : xs[f.offset]? = some (.int .i64 a))
    (h : (Op.eqFields (d + 1) xs xs fs).run Try.prog w = .ok true w) : (Op.eqFields (d + 1) xs xs (f :: fs)).run Try.prog w = .ok true w := by
  simp only [Prod.mk.injEq, bne_iff_ne] at h0
  refine eqF3_step h0.1 (run_part_plain w h0.2.1 hx) (run_part_plain w h0.2.1 hx) ?_ h
  have he : (Op.equalIn (d + 1) f.type (.int .i64 a) (.int .i64 a)).run Try.prog w = .ok (a == a) w := run_equalIn_int w d _ .i64 .i64 a a h0.2.2
  rw [he]; simp
theorem eqF3_bool {d : Nat} {xs : Array Value} {f : Field} {fs : List Field} {a : Bool} {w : World} (h0 : (f.name != "_", Try.prog.plainKey f.type, Try.prog.underlying f.type) = (true, true, some .bool)) (hx : xs[f.offset]? = some (.bool a))
    (h : (Op.eqFields (d + 1) xs xs fs).run Try.prog w = .ok true w) : (Op.eqFields (d + 1) xs xs (f :: fs)).run Try.prog w = .ok true w := by
  simp only [Prod.mk.injEq, bne_iff_ne] at h0
  refine eqF3_step h0.1 (run_part_plain w h0.2.1 hx) (run_part_plain w h0.2.1 hx) ?_ h
  rw [run_equalIn_bool w d _ a a h0.2.2]; simp
theorem eqAddr (d : Nat) (k i j : Int) (w : World) : (Op.equalIn (d + 2) 59 (.agg #[.int .i64 k, .int .i64 i, .int .i64 j]) (.agg #[.int .i64 k, .int .i64 i, .int .i64 j])).run Try.prog w = .ok true w := by
  rw [run_equalIn_struct w (d + 1) 59 _ _ (by kernel_rfl) (by kernel_rfl)]
  have hk : (Try.prog.fieldsOf 59).toList.map (fun f => ((f.name != "_", Try.prog.plainKey f.type, Try.prog.underlying f.type), f.offset)) = [((true, true, some (.int .i64)), 0), ((true, true, some (.int .i64)), 1), ((true, true, some (.int .i64)), 2)] := by kernel_rfl
  obtain ⟨f0, r0, hf, e0, hk1⟩ := List.map_eq_cons_iff.1 hk
  obtain ⟨f1, r1, rfl, e1, hk2⟩ := List.map_eq_cons_iff.1 hk1
  obtain ⟨f2, r2, rfl, e2, hk3⟩ := List.map_eq_cons_iff.1 hk2
  obtain rfl := List.map_eq_nil_iff.1 hk3
  rw [Prod.mk.injEq] at e0 e1 e2
  rw [hf]
  exact eqF3_int (a := k) e0.1 (by rw [e0.2]; rfl) (eqF3_int (a := i) e1.1 (by rw [e1.2]; rfl) (eqF3_int (a := j) e2.1 (by rw [e2.2]; rfl) (eqF3_nil _ _ _ _)))
theorem partAddr (a b c d e f g : Int) (y : Bool) (w : World) : (part 59 #[.int .i64 a, .int .i64 b, .int .i64 c, .int .i64 d, .int .i64 e, .int .i64 f, .int .i64 g, .bool y] 2).run Try.prog w = .ok (.agg #[.int .i64 c, .int .i64 d, .int .i64 e]) w := by
  obtain ⟨fs, hu⟩ : ∃ fs, Try.prog.underlying 59 = some (.struct fs) := ⟨_, Try.underlying59⟩
  simp [part, isAgg, run_underlying hu]
theorem eqAcc (a b c d e f g : Int) (y : Bool) (w : World) : (Op.equalIn 10000 117 (.agg #[.int .i64 a, .int .i64 b, .int .i64 c, .int .i64 d, .int .i64 e, .int .i64 f, .int .i64 g, .bool y]) (.agg #[.int .i64 a, .int .i64 b, .int .i64 c, .int .i64 d, .int .i64 e, .int .i64 f, .int .i64 g, .bool y])).run Try.prog w = .ok true w := by
  rw [run_equalIn_struct w 9999 117 _ _ (by kernel_rfl) (by kernel_rfl)]
  have hk : (Try.prog.fieldsOf 117).toList.map (fun f => ((f.name != "_", Try.prog.plainKey f.type, Try.prog.underlying f.type), f.offset)) = [((true, true, some (.int .i64)), 0), ((true, true, some (.int .i64)), 1), ((true, false, Try.prog.underlying 59), 2), ((true, true, some (.int .i64)), 5), ((true, true, some (.int .i64)), 6), ((true, true, some .bool), 7)] := by kernel_rfl
  have hk0 : (Try.prog.fieldsOf 117).toList.map (fun f => f.type) = [3, 3, 59, 2, 2, 4] := by kernel_rfl
  obtain ⟨f0, r0, hf, e0, hk1⟩ := List.map_eq_cons_iff.1 hk
  obtain ⟨f1, r1, rfl, e1, hk2⟩ := List.map_eq_cons_iff.1 hk1
  obtain ⟨f2, r2, rfl, e2, hk3⟩ := List.map_eq_cons_iff.1 hk2
  obtain ⟨f3, r3, rfl, e3, hk4⟩ := List.map_eq_cons_iff.1 hk3
  obtain ⟨f4, r4, rfl, e4, hk5⟩ := List.map_eq_cons_iff.1 hk4
  obtain ⟨f5, r5, rfl, e5, hk6⟩ := List.map_eq_cons_iff.1 hk5
  obtain rfl := List.map_eq_nil_iff.1 hk6
  rw [hf] at hk0
  simp only [List.map_cons, List.map_nil, List.cons.injEq] at hk0
  have ht := hk0.2.2.1
  rw [Prod.mk.injEq] at e0 e1 e2 e3 e4 e5
  rw [hf]
  have hn2 : f2.name ≠ "_" := by
    have h := e2.1
    rw [Prod.mk.injEq] at h
    simpa using h.1
  refine eqF3_int (a := a) e0.1 (by rw [e0.2]; rfl) (eqF3_int (a := b) e1.1 (by rw [e1.2]; rfl) (eqF3_step (a := .agg #[.int .i64 c, .int .i64 d, .int .i64 e]) hn2 ?_ ?_ ?_ (eqF3_int (a := f) e3.1 (by rw [e3.2]; rfl) (eqF3_int (a := g) e4.1 (by rw [e4.2]; rfl) (eqF3_bool (a := y) e5.1 (by rw [e5.2]; rfl) (eqF3_nil _ _ _ _))))))
  · rw [ht, e2.2]; exact partAddr a b c d e f g y w
  · rw [ht, e2.2]; exact partAddr a b c d e f g y w
  · rw [ht]; exact eqAddr 9997 c d e w
/-- Log has answered: all accesses, in new memory. -/
def LogGot (w : World) (l : List Acc) (e : Ending) (w' : World) : Prop := ∃ v, e = .returned v ∧ w'.ownsRow 0 117 8 v l.length (accCells l) ∧ Below w.heap.size w w'
theorem acc_all (l : List Acc) : ∀ u ∈ accCells l, u.oneCell' = true := by
  intro u hu
  obtain ⟨x, _, hx⟩ := List.mem_flatMap.1 hu
  exact acc_one x u hx
set_option maxHeartbeats 1000000 in
set_option maxRecDepth 100000 in
theorem log_any (p ring cells : Nat) (l : List Acc) (hlen : l.length ≤ 3000000000000) (w : World) (F : Nat → Prop) (h : MemH p ring cells l w F) : Calls Try.prog 25 #[.pointer (some ⟨p, 0, none⟩), .int .i64 0] w (LogGot w l) := by
  obtain ⟨i0, hi, hI0, hI1, hI2⟩ := info_parts infoAcc
  obtain ⟨hv, sv, cv, lv, h1, h2, h3, h4⟩ := h
  have hpos : lv = .slice none 0 0 ∧ l = [] ∨ ∃ g c, lv = .slice (some ⟨g, 0, none⟩) l.length c ∧ l.length ≤ c ∧ ∀ k, k < l.length * 8 → w.cell? ⟨g, k, none⟩ = (accCells l)[k]? := by
    rcases h2.2 with ⟨e, h0⟩ | ⟨g, cap, cur, e, _, hg, hnc, hcm, hcs, htake⟩
    · exact .inl ⟨e, List.length_eq_zero_iff.1 h0⟩
    · refine .inr ⟨g, cap, e, hnc, fun k hk => ?_⟩
      rw [cell_of_row w g k cur _ (0, 0) hg]
      have h1 : (cur.toList.take (l.length * 8))[k]? = (accCells l)[k]? := by rw [htake]
      rw [List.getElem?_take, if_pos hk] at h1
      rw [← h1]; simp
  obtain ⟨_, _, _, _, p4, fz⟩ := mem_cells h1.1
  clear h1 h2 h3 h4
  rcases hpos with ⟨rfl, rfl⟩ | ⟨g, c, rfl, hlc, hcell⟩
  · go_enter Try.func25, Try.ntmps25
    go_wp2_with fail
    go_quiet (fail)
    go_wp2_with fail
    go_ret
    exact ⟨_, rfl, World.ownsRow_nil _ _ _ _, below_drewN (Below.refl _ _) _⟩
  · have HC := Lib.hid hcell
    clear hcell
    obtain ⟨n, hn⟩ : ∃ n, l.length = n := ⟨_, rfl⟩
    have HN := Lib.hid hn
    rw [hn] at p4 hlc hlen
    have hz : (0 : Int) ≤ n := by omega
    have hz2 : (n : Int) ≤ c := by omega
    clear hn
    go_enter Try.func25, Try.ntmps25
    go_wp2_with fail
    go_quiet (fail)
    have HL8 : Hid ((accCells l).length = n * 8) := by show _ = _; rw [accCells_len, HN.out]
    have hown : (w.drewN nq).ownsRow w.heap.size 117 8 (.slice none 0 0) 0 [] := World.ownsRow_nil _ _ _ _
    go_wp2_with (at_builtin; refine wpListW_at rfl (.const (.slice none 0 0)) (.tmp 32) 81 rfl w.heap.size 117 i0 (.agg #[.int .i64 0, .int .i64 0, .int .i64 0, .int .i64 0, .int .i64 0, .int .i64 0, .int .i64 0, .bool false]) 8 64 Try.underlying81 hi hI0 hI1 hI2 rfl (by decide) (.slice none 0 0) 0 [] rfl hown ⟨g, 0, none⟩ n n (accCells l) rfl ?c0 ?c1 (acc_all l) ?c3 ?c4 ?c5 ?_)
    case c0 => exact HL8.out
    case c1 =>
      intro j u hj
      have hjl := (List.getElem?_eq_some_iff.1 hj).1
      rw [HL8.out] at hjl
      have h := HC.out j (by rw [HN.out]; exact hjl)
      show w.cell? _ = _
      have e : (⟨g, 0, none⟩ : Addr).add j = ⟨g, j, none⟩ := by simp [Addr.add]; omega
      rw [e, h]; exact hj
    case c3 => unfold maxLen; omega
    case c4 => omega
    case c5 => exact Nat.le_refl _
    · intro v' w2 hown' hgrow _ _
      have HO : Hid (w2.ownsRow 0 117 8 v' l.length (accCells l)) := by
        show World.ownsRow _ _ _ _ _ _ _
        rw [HN.out]
        exact own_base hown' (fun _ _ => Nat.zero_le _)
      have HB : Hid (Below w.heap.size w w2) := (below_drewN (Below.refl _ w) nq).grown hgrow (Nat.le_refl _) (fun j hj => by simp [Value.ownBlock] at hj)
      clear hown' hgrow hown
      go_wp2_with fail
      go_ret
      exact ⟨_, rfl, HO.out, HB.out⟩
end Go.Proofs.Ytojkeahffabifaa
