/- Groups of the program: a list of lists in new memory, by a map keyed by signatures. -/
import Derived.Test.YtcnkoiogfhggeaaDoorM5
import Derived.Test.YtcnkoiogfhggeaaDoorS2k
import Derived.Test.YtcnkoiogfhggeaaDoorC2p
import Derived.BigQuiet
import Derived.Deep.QuietTactic
namespace Go.Proofs.YtcnkoiogfhggeaaDoor
open Go.RowKit
set_option linter.unusedVariables false
theorem infoInts : (Tryd.prog.info? 22).map (fun i => (i.zero, i.size, i.bytes)) = some (some (.slice none 0 0), 1, 24) := by kernel_rfl
theorem zeroInt (w : World) : (zeroValue 3).run Tryd.prog w = .ok (.int .i64 0) w := by kernel_rfl
/-- A list of signatures that comes in: signature i is q i. -/
def SigsAt (w : World) (a : Option Addr) (len : Nat) (q : Nat → Nat → Int) : Prop :=
  len = 0 ∨ ∃ b off, a = some ⟨b, off, none⟩ ∧ b < w.heap.size ∧ ∀ i, i < len → ∀ j, j < 8 → w.cell? ⟨b, off + i * 8 + j, none⟩ = some (.int .u64 (q i j))
theorem SigsAt.below {w w' : World} {a : Option Addr} {len : Nat} {q : Nat → Nat → Int} (h : SigsAt w a len q) (hb : Below w.heap.size w w') : SigsAt w' a len q :=
  h.elim .inl fun ⟨b, off, e, hlt, hc⟩ => .inr ⟨b, off, e, Nat.lt_of_lt_of_le hlt hb.size, fun i hi j hj => (hb.cell (p := ⟨b, off + i * 8 + j, none⟩) hlt).trans (hc i hi j hj)⟩
def grpZ (q : Nat → Nat → Int) (n : Nat) : List (List Int) := (groupsG (sameQ q) n).map fun (g : List Nat) => g.map fun (i : Nat) => (i : Int)
theorem World.ownsMap_chg {w w' : World} {k : TypeId} {R : Value → Option (DataW Unit × List MemPlace)} {b n : Nat} {D : DataW Unit} (h : w.ownsMap Tryd.prog k R b n D) (hc : w'.heap[b]? = w.heap[b]?) : w'.ownsMap Tryd.prog k R b n D := by
  obtain ⟨es, clock, h1, h2⟩ := h
  exact ⟨es, clock, hc.trans h1, h2⟩
/-- What the loop of Groups keeps. -/
def GRel (w : World) (q : Nat → Nat → Int) (o : Value) (k : Nat) (wr : World) : Prop :=
  (∃ D : DataW Unit, wr.ownsMap Tryd.prog 25 (plainElem Tryd.prog 3) w.heap.size k D ∧ MapOf q (groupsG (sameQ q) k) D) ∧ w.heap.size < wr.heap.size ∧
  ∃ F, RowsH o (grpZ q k) wr F ∧ (∀ b, F b → w.heap.size < b) ∧ Below w.heap.size w wr
theorem grpZ_get {q : Nat → Nat → Int} {n k : Nat} {g : List Nat} (h : (groupsG (sameQ q) n)[k]? = some g) : (grpZ q n)[k]? = some (g.map fun (i : Nat) => (i : Int)) := by
  unfold grpZ; rw [List.getElem?_map, h]; rfl
theorem grpZ_len (q : Nat → Nat → Int) (n : Nat) : (grpZ q n).length = (groupsG (sameQ q) n).length := by unfold grpZ; simp
theorem grpZ_hit {q : Nat → Nat → Int} {n k : Nat} {g : List Nat} (h : putG (sameQ q) n (groupsG (sameQ q) n) = (groupsG (sameQ q) n).set k (g ++ [n])) : grpZ q (n + 1) = (grpZ q n).set k ((g.map fun (i : Nat) => (i : Int)) ++ [(n : Int)]) := by
  show (putG (sameQ q) n (groupsG (sameQ q) n)).map _ = _
  rw [h, List.map_set]
  unfold grpZ
  simp
theorem grpZ_miss {q : Nat → Nat → Int} {n : Nat} (h : putG (sameQ q) n (groupsG (sameQ q) n) = groupsG (sameQ q) n ++ [[n]]) : grpZ q (n + 1) = grpZ q n ++ [[(n : Int)]] := by
  show (putG (sameQ q) n (groupsG (sameQ q) n)).map _ = _
  rw [h, List.map_append]
  rfl
theorem grel_go {w wb w' : World} {q : Nat → Nat → Int} {v : Value} {k n : Nat} {F : Nat → Prop} {D : DataW Unit} (hO : wb.ownsMap Tryd.prog 25 (plainElem Tryd.prog 3) w.heap.size n D) (hn : n ≤ k + 1) (hM : MapOf q (groupsG (sameQ q) (k + 1)) D) (hsz : w.heap.size < wb.heap.size)
    (hFl : ∀ b, F b → w.heap.size < b) (hbel : Below w.heap.size w wb) (hs : Stp wb w' F (RowsH v (grpZ q (k + 1)))) : GRel w q v (k + 1) w' := by
  obtain ⟨F', h1, hc, hnew⟩ := hs
  have hz := hc.size
  refine ⟨⟨D, (World.ownsMap_chg hO (hc.block _ hsz (fun h => by have := hFl _ h; omega))).mono hn, hM⟩, by omega, F', h1, fun b hb => ?_, hbel.trans (hc.below (fun b hb => Nat.le_of_lt (hFl b hb)) (by omega))⟩
  rcases hnew b hb with h | h
  · exact hFl b h
  · omega
theorem wpL_look_hit {w : World} {ops : Array Oper} {rest : List Oper} {o : Oper} {a : Act} {Q : Exit → Act → World → Prop} (hg : o.guard = none) (m x : Operand) (hop : o.op = Op.lookup 54 m x true) {b n i : Nat} {D : DataW Unit} {q : Nat → Nat → Int} {gs : List (List Nat)}
    (hm : a.eval m = .map (some b)) (hown : w.ownsMap Tryd.prog 25 (plainElem Tryd.prog 3) b n D) (hM : MapOf q gs D) (hq : ∀ i, Wds (q i)) (hne : ∀ g ∈ gs, g ≠ []) (hx : a.eval x = (.agg #[.int .u64 ((q i) 0), .int .u64 ((q i) 1), .int .u64 ((q i) 2), .int .u64 ((q i) 3), .int .u64 ((q i) 4), .int .u64 ((q i) 5), .int .u64 ((q i) 6), .int .u64 ((q i) 7)])) (hh : Maps.has D (keyS (q i)) = true)
    (h : ∀ (j : Nat) (g : List Nat), gs[j]? = some g → putG (sameQ q) i gs = gs.set j (g ++ [i]) → MapOf q (putG (sameQ q) i gs) D → wpList Tryd.prog ops Q rest (a.put o.dst (.tuple #[.int .i64 (j : Int), .bool true])) w) : wpList Tryd.prog ops Q (o :: rest) a w := by
  refine wpList_lookup_own_ok_int w hg m x _ hop 25 3 .i64 sig_law Tryd.underlying54 Tryd.underlying3 (zeroInt _) b n D hm hown _ _ hx (keyS_is _ (hq i)) ?_
  intro c hat hwc
  obtain ⟨j, g, hj, rfl, hp, hM'⟩ := mapOf_hit hq hM hne i hh hat
  rw [hh]
  exact h j g hj hp hM'
theorem wpL_look_miss {w : World} {ops : Array Oper} {rest : List Oper} {o : Oper} {a : Act} {Q : Exit → Act → World → Prop} (hg : o.guard = none) (m x : Operand) (hop : o.op = Op.lookup 54 m x true) {b n i : Nat} {D : DataW Unit} {q : Nat → Nat → Int}
    (hm : a.eval m = .map (some b)) (hown : w.ownsMap Tryd.prog 25 (plainElem Tryd.prog 3) b n D) (hq : ∀ i, Wds (q i)) (hx : a.eval x = (.agg #[.int .u64 ((q i) 0), .int .u64 ((q i) 1), .int .u64 ((q i) 2), .int .u64 ((q i) 3), .int .u64 ((q i) 4), .int .u64 ((q i) 5), .int .u64 ((q i) 6), .int .u64 ((q i) 7)])) (hh : Maps.has D (keyS (q i)) = false)
    (h : ∀ c : Int, wpList Tryd.prog ops Q rest (a.put o.dst (.tuple #[.int .i64 c, .bool false])) w) : wpList Tryd.prog ops Q (o :: rest) a w := by
  refine wpList_lookup_own_ok_int w hg m x _ hop 25 3 .i64 sig_law Tryd.underlying54 Tryd.underlying3 (zeroInt _) b n D hm hown _ _ hx (keyS_is _ (hq i)) ?_
  intro c hat hwc
  rw [hh]
  exact h c
theorem rows_keep {wb w1 w2 : World} {v x : Value} {gs : List (List Int)} {xs : List Value} {k bo n c : Nat} (h : RowsAt wb v gs xs) (hx : xs[k]? = some x) (hb : Below wb.heap.size wb w1) (hg : w1.grownBy w2 x.ownBlock) (hv : v = .slice (some ⟨bo, 0, none⟩) n c) : w2.heap[bo]? = wb.heap[bo]? := by
  have hvb : v.ownBlock = some bo := by rw [hv]; rfl
  have hl := (h.out.lt bo hvb).2
  exact ((Chg.grown hg).block bo (Nat.lt_of_lt_of_le hl hb.size) (fun e => h.off k x bo hx e hvb)).trans (hb.block bo hl)
theorem cell_new0 (w : World) (u : Value) (t : TypeId) : (w.alloc (.cells #[u] t)).cell? ⟨w.heap.size, 0, none⟩ = some u := by have h := heapAlloc w (.cells #[u] t); simp only [World.cell?, h]; rfl
/-- A list is appended to a list of lists. -/
theorem wpL_lists {w : World} {ops : Array Oper} {rest : List Oper} {o : Oper} {a : Act} {Q : Exit → Act → World → Prop} (hgd : o.guard = none) (s x : Operand)
    (ho : o.op = .call { callee := .builtin .append, args := #[s, x], argTypes := #[38, 38] }) {v u : Value} {n b : Nat} {xs : List Value} (hs : a.eval s = v) (hown : w.ownsRow 0 22 1 v n xs)
    (hx : a.eval x = .slice (some ⟨b, 0, none⟩) 1 1) (hc : w.cell? ⟨b, 0, none⟩ = some u) (hu : u.oneCell' = true) (hn : n ≤ 2199023255552)
    (h : ∀ v' w', w'.ownsRow 0 22 1 v' (n + 1) (xs ++ [u]) → w.grownBy w' v.ownBlock → (v'.ownBlock = v.ownBlock ∨ v'.ownBlock = some w.heap.size) → wpList Tryd.prog ops Q rest (a.put o.dst v') w') : wpList Tryd.prog ops Q (o :: rest) a w := by
  obtain ⟨i1, hj, hy0, hy1, hy2⟩ := info_parts infoInts
  refine wpList_append_own_at w hgd s x _ ho 0 22 i1 (.slice none 0 0) 1 24 Tryd.underlying38 hj hy0 hy1 hy2 rfl (by decide) v n xs hs hown ⟨b, 0, none⟩ 1 1 [u] hx rfl (fun j y hj => ?_) (fun y hy => ?_) (by unfold maxLen; omega) (by omega) (Nat.zero_le _) (fun v' w' k1 k2 _ k4 => h v' w' k1 k2 k4)
  · match j, hj with
    | 0, hj =>
      simp at hj
      subst hj
      simpa [Addr.add] using hc
  · simp at hy
    subst hy
    exact hu
set_option maxHeartbeats 4000000 in
theorem sigGroups_any (q : Nat → Nat → Int) (hq : ∀ i, Wds (q i)) (a : Option Addr) (len c : Nat) (w : World) (hs : SigsAt w a len q) (hl : len ≤ 2199023255552) :
    Calls Tryd.prog 28 #[.slice a len c] w fun e w' => ∃ v, e = .returned v ∧ AtW w (RowsH v (grpZ q len)) w' := by
  obtain ⟨i0, hi, hz0, hz1, hz2⟩ := info_parts infoInt
  obtain ⟨i1, hj, hy0, hy1, hy2⟩ := info_parts infoInts
  have HS := Lib.hid hs
  have HQ := Lib.hid hq
  have hmm := @run_makeMap Tryd.prog
  clear hs hq
  go_enter Tryd.func28, Tryd.ntmps28
  go_wp2_with fail
  go_loopw [4, 12] (fun o i wr => ∃ k : Nat, k ≤ len ∧ i = .int .i64 k ∧ Hid (GRel w q o k wr)) (fun _ i _ => len - (intOf i).toNat)
  case atStart =>
    refine ⟨0, by omega, rfl, ⟨_, World.ownsMap_made _ _ _ _, mapOf_nil q⟩, by simp, _, rowsH_nil _, fun _ h => h.elim, (Below.refl _ _).alloc (Nat.le_refl _) _⟩
  case round =>
    rename_i o _
    obtain ⟨k, hk, rfl, HR⟩ := hrel
    by_cases hlt : k < len
    · obtain ⟨b, off, rfl, hbw, hc⟩ := HS.out.resolve_left (by omega)
      obtain ⟨⟨D, hO, hM⟩, hsz, F, ⟨xs, hRows, hF⟩, hFl, hBW⟩ := HR.out
      have c0 := (hBW.cell (p := ⟨b, off + k * 8 + 0, none⟩) hbw).trans (hc k hlt 0 (by omega))
      have c1 := (hBW.cell (p := ⟨b, off + k * 8 + 1, none⟩) hbw).trans (hc k hlt 1 (by omega))
      have c2 := (hBW.cell (p := ⟨b, off + k * 8 + 2, none⟩) hbw).trans (hc k hlt 2 (by omega))
      have c3 := (hBW.cell (p := ⟨b, off + k * 8 + 3, none⟩) hbw).trans (hc k hlt 3 (by omega))
      have c4 := (hBW.cell (p := ⟨b, off + k * 8 + 4, none⟩) hbw).trans (hc k hlt 4 (by omega))
      have c5 := (hBW.cell (p := ⟨b, off + k * 8 + 5, none⟩) hbw).trans (hc k hlt 5 (by omega))
      have c6 := (hBW.cell (p := ⟨b, off + k * 8 + 6, none⟩) hbw).trans (hc k hlt 6 (by omega))
      have c7 := (hBW.cell (p := ⟨b, off + k * 8 + 7, none⟩) hbw).trans (hc k hlt 7 (by omega))
      simp only [Nat.add_zero] at c0
      have HO := Lib.hid hO
      have HM := Lib.hid hM
      have HSZ := Lib.hid hsz
      have HRW := Lib.hid (And.intro hRows hF)
      have HFL := Lib.hid hFl
      have HBW := Lib.hid hBW
      have HLEN : Hid ((groupsG (sameQ q) k).length ≤ k ∧ ∀ g ∈ groupsG (sameQ q) k, g.length ≤ k) := ⟨groupsG_len _ _, groupsG_each _ _⟩
      obtain ⟨oa, oc, rfl⟩ := ownAt_form hRows.out
      clear hBW hc hO hM hsz hRows hF hFl HR
      cases hh : Maps.has D (keyS (q k)) with
      | true =>
        have HH := Lib.hid hh
        clear hh
        go_wp2_with (first
          | (at_lookup
             refine wpL_look_hit rfl _ _ rfl rfl (HO.out.alloc _) HM.out HQ.out (groupsG_ne _ _) rfl HH.out ?_
             intro j g hg hp hM2
             have HP := Lib.hid (And.intro hp hM2)
             clear hp hM2
             generalize hwb : wr.alloc (.cells #[.int .u64 ((q k) 0), .int .u64 ((q k) 1), .int .u64 ((q k) 2), .int .u64 ((q k) 3), .int .u64 ((q k) 4), .int .u64 ((q k) 5), .int .u64 ((q k) 6), .int .u64 ((q k) 7)] 25) = wb
             have hbb : Below wr.heap.size wr wb := by rw [← hwb]; exact (Below.refl _ _).alloc (Nat.le_refl _) _
             have hOb : wb.ownsMap Tryd.prog 25 (plainElem Tryd.prog 3) w.heap.size k D := by rw [← hwb]; exact HO.out.alloc _
             have HOB := Lib.hid hOb
             have hRb := HRW.out.1.chg (Chg.calm (fun _ => False) hbb) (fun _ _ h => h)
             have hsb := hbb.size
             have HSB := Lib.hid (And.intro (Nat.lt_of_lt_of_le HSZ.out hsb) (HBW.out.trans (hbb.mono HBW.out.size)))
             obtain ⟨bo, co, x, hv, hxc, hfz, hx, hxo⟩ := rows_at hRb (grpZ_get hg)
             obtain ⟨xa, xc, rfl⟩ := ownAt_form hxo
             simp only [Value.slice.injEq] at hv
             obtain ⟨rfl, _, rfl⟩ := hv
             have hjl : j < (grpZ q k).length := (List.getElem?_eq_some_iff.1 (grpZ_get hg)).1
             have hgl := HLEN.out.2 g (List.mem_of_getElem? hg)
             have hnl : (grpZ q k).length ≤ k := by rw [grpZ_len]; exact HLEN.out.1
             have hgl2 : (g.map fun (i : Nat) => (i : Int)).length ≤ k := by simpa using hgl
             have HRB := Lib.hid (And.intro hRb HRW.out.2)
             have HX := Lib.hid hx
             have HG := Lib.hid (And.intro (grpZ_get hg) (grpZ_hit HP.out.1))
             clear hwb hbb hOb hRb hx hg hgl
             generalize (g.map fun (i : Nat) => (i : Int)) = gz at *)
          | (at_builtin
             refine wpList_append_own_at _ rfl (.tmp 38) (.tmp 40) 22 rfl 0 3 i0 (.int .i64 0) 1 8 Tryd.underlying22 hi hz0 hz1 hz2 rfl (by decide) _ _ _ rfl (hxo.alloc _) ⟨wb.heap.size, 0, none⟩ 1 1 [.int .i64 k] rfl rfl (cell_one_new _ _ _) (by intro u hu; simp at hu; subst hu; rfl) (by unfold maxLen; omega) (by omega) (Nat.zero_le _) ?_
             intro x' w2 ho2 hg2 hnil hloc
             obtain ⟨xb, xd, rfl⟩ := ownAt_form ho2
             have HST := Lib.hid (rows_grow (g' := gz ++ [(k : Int)]) HRB.out.1 HRB.out.2 HG.out.1 HX.out ((Below.refl _ _).alloc (Nat.le_refl _) _) (by simpa [intV] using ho2) hg2 hloc rfl)
             have hkp := rows_keep HRB.out.1 HX.out ((Below.refl _ _).alloc (Nat.le_refl _) _) hg2 rfl
             have hc2 := (World.cell?_of_block (a := ⟨bo, j, none⟩) hkp).trans hxc
             have hf2 := (World.frozen?_of_block (a := ⟨bo, j, none⟩) hkp).trans hfz
             clear hkp ho2 hg2 hnil hloc))
        go_roundw
        case rel =>
          refine ⟨k + 1, by omega, by go_num, grel_go HOB.out (Nat.le_succ k) HP.out.2 HSB.out.1 HFL.out HSB.out.2 ?_⟩
          rw [HG.out.2]
          exact HST.out
        case measure => simp [intOf]; omega
      | false =>
        have HH := Lib.hid hh
        clear hh
        have hnl : (grpZ q k).length ≤ k := by rw [grpZ_len]; exact HLEN.out.1
        obtain ⟨n, hn⟩ : ∃ n, (grpZ q k).length = n := ⟨_, rfl⟩
        have HN := Lib.hid hn
        have HMI := Lib.hid (mapOf_miss HQ.out ((HO.out).isMap) HM.out k HH.out)
        rw [← grpZ_len, hn] at HMI
        rw [hn] at hnl
        rw [hn]
        clear hn
        go_wp2_with (first
          | (at_lookup
             refine wpL_look_miss rfl _ _ rfl rfl (HO.out.alloc _) HQ.out rfl HH.out ?_
             intro c)
          | (at_mapUpdate
             refine wpList_mapUpdate_own _ rfl _ _ _ 54 rfl 25 3 sig_law Tryd.underlying54 (plainElem Tryd.prog 3) w.heap.size k D rfl (HO.out.alloc _) (by unfold maxLen; omega) _ _ (keyS (q k)) rfl rfl (keyS_is _ (HQ.out k)) (.lit (.int .i64 n)) [] (plainElem_int Tryd.underlying3 (WalkArith.wf_i64 (by omega))) ?_
             intro w1 hown1 hgrow1
             have hb1 : Below wr.heap.size wr (wr.alloc (.cells #[.int .u64 ((q k) 0), .int .u64 ((q k) 1), .int .u64 ((q k) 2), .int .u64 ((q k) 3), .int .u64 ((q k) 4), .int .u64 ((q k) 5), .int .u64 ((q k) 6), .int .u64 ((q k) 7)] 25)) := (Below.refl _ _).alloc (Nat.le_refl _) _
             have hcc : Chg (fun b => b = w.heap.size) wr w1 := (Chg.calm _ hb1).grow hgrow1 (fun b e _ => (Option.some.inj e).symm)
             have hR1 := HRW.out.1.chg hcc (fun b hb e => by have := HFL.out b ((HRW.out.2 b).2 hb); omega)
             have hB1 : Below w.heap.size w w1 := HBW.out.trans (hcc.below (fun b e => by omega) (by have := HSZ.out; omega))
             have hz1' := hcc.size
             have HS1 := Lib.hid (And.intro hown1 (And.intro (Nat.lt_of_lt_of_le HSZ.out hz1') hB1))
             clear hown1 hgrow1 hb1 hcc hB1 hz1'
             have hF1 := HRW.out.2
             rw [HN.out] at hR1 hF1
             have hR1o := hR1.out
             rw [HN.out] at hR1o
             have HR1 := Lib.hid (And.intro hR1 hF1)
             clear hR1 hF1)
          | (at_builtin
             refine wpL_lists (b := w1.heap.size) (u := .slice none 0 0) rfl (.tmp 30) (.tmp 31) rfl rfl (hR1o.alloc _) rfl (cell_new0 _ _ _) rfl (by omega) ?_
             intro v' w2 ho2 hg2 hloc
             clear hR1o
             have hst := rows_app (g := []) (x := .slice none 0 0) HR1.out.1 HR1.out.2 ((Below.refl _ _).alloc (Nat.le_refl _) _) (World.ownsRow_nil _ _ _ _) (by intro b e; simp [Value.ownBlock] at e) (by rw [HN.out]; exact ho2) hg2 hloc
             clear ho2 hg2 hloc
             obtain ⟨F2, ⟨xs2, hR2, hF2⟩, hc2, hn2⟩ := hst
             have HST1 := Lib.hid (And.intro hc2 hn2)
             clear hc2 hn2
             have hge : (grpZ q k ++ [[]])[n]? = some [] := by rw [List.getElem?_append_right (by rw [HN.out]; exact Nat.le_refl _), HN.out]; simp
             obtain ⟨bo, co, x, hv, hxc, hfz, hx, hxo⟩ := rows_at hR2 hge
             obtain ⟨xa, xc, rfl⟩ := ownAt_form hxo
             rw [List.length_append, HN.out] at hv
             simp only [List.length_cons, List.length_nil] at hv hxo hxc hx
             subst hv
             have HR2 := Lib.hid (And.intro hR2 hF2)
             have HX := Lib.hid (And.intro hx hge)
             clear hR2 hF2 hx hge)
          | (at_builtin
             refine wpList_append_own_at _ rfl (.tmp 38) (.tmp 40) 22 rfl 0 3 i0 (.int .i64 0) 1 8 Tryd.underlying22 hi hz0 hz1 hz2 rfl (by decide) _ _ _ rfl (hxo.alloc _) ⟨w2.heap.size, 0, none⟩ 1 1 [.int .i64 k] rfl rfl (cell_one_new _ _ _) (by intro u hu; simp at hu; subst hu; rfl) (by unfold maxLen; omega) (by omega) (Nat.zero_le _) ?_
             intro x' w3 ho2 hg2 hnil hloc
             obtain ⟨xb, xd, rfl⟩ := ownAt_form ho2
             have HST := Lib.hid (rows_grow (g' := [(k : Int)]) HR2.out.1 HR2.out.2 HX.out.2 HX.out.1 ((Below.refl _ _).alloc (Nat.le_refl _) _) (by simpa [intV] using ho2) hg2 hloc rfl)
             have hkp := rows_keep HR2.out.1 HX.out.1 ((Below.refl _ _).alloc (Nat.le_refl _) _) hg2 rfl
             have hc2 := (World.cell?_of_block (a := ⟨bo, n, none⟩) hkp).trans hxc
             have hf2 := (World.frozen?_of_block (a := ⟨bo, n, none⟩) hkp).trans hfz
             clear hkp ho2 hg2 hnil hloc))
        go_roundw
        case rel =>
          refine ⟨k + 1, by omega, by go_num, grel_go HS1.out.1 (Nat.le_refl _) (by show MapOf q (putG _ _ _) _; rw [HMI.out.1]; exact HMI.out.2) HS1.out.2.1 HFL.out HS1.out.2.2 ?_⟩
          rw [grpZ_miss HMI.out.1]
          have h := HST.out
          have e : (grpZ q k ++ [([] : List Int)]).set n [(k : Int)] = grpZ q k ++ [[(k : Int)]] := by rw [← HN.out]; simp
          rw [e] at h
          exact Stp.comp HST1.out.1 HST1.out.2 h
        case measure => simp [intOf]; omega
    · obtain rfl : k = len := by omega
      go_wp2_with fail
      go_ret
      obtain ⟨_, hsz, F, hRows, hFl, hBW⟩ := HR.out
      exact ⟨_, rfl, F, hRows, hBW, fun b hb => Nat.le_of_lt (hFl b hb)⟩
end Go.Proofs.YtcnkoiogfhggeaaDoor
