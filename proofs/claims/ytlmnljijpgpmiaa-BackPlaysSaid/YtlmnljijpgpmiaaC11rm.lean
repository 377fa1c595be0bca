/- Layer 11: the reference's machine as an object; Over, Left, lacks. -/
import Derived.Test.YtlmnljijpgpmiaaC11b
import Derived.Test.YtlmnljijpgpmiaaS11b
import Derived.Test.YtlmnljijpgpmiaaC3g
import Derived.Test.YtlmnljijpgpmiaaC4
namespace Go.Proofs.Ytlmnljijpgpmiaa
open Go.RowKit
set_option linter.unusedVariables false
/-- The reference's machine. -/
def rbC (d : BD) (k : Nat) (sn : Bool) (lv : Value) : Array Value := #[.int .i64 d.n, .bool d.mu, .int .i64 d.st, d.lv, .int .u64 (d.s 0), .int .u64 (d.s 1), .int .u64 (d.s 2), .int .u64 (d.s 3), .int .u64 (d.s 4), .int .u64 (d.s 5), .int .u64 (d.s 6), .int .u64 (d.s 7), .int .i64 k, lv, .bool sn]
abbrev RBakH (y : Nat) (d : BD) (k : Nat) (L : List Int) (sn : Bool) : HP := Star (RowH d.lv d.W) (LstH y (rbC d k sn) 73 2 L)
theorem RBakH.good (y : Nat) (d : BD) (k : Nat) (L : List Int) (sn : Bool) : Good (RBakH y d k L sn) := (RowH.good _ _).star (LstH.good _ _ _ _ _)
structure RBakR (w : World) (y : Nat) (d : BD) (k : Nat) (sn : Bool) (lv : Value) : Prop where
  c0 : w.cell? ⟨y, 0, none⟩ = some (.int .i64 d.n)
  c1 : w.cell? ⟨y, 1, none⟩ = some (.bool d.mu)
  c2 : w.cell? ⟨y, 2, none⟩ = some (.int .i64 d.st)
  c3 : w.cell? ⟨y, 3, none⟩ = some d.lv
  rd : ∀ j, j < 8 → w.cell? ⟨y, 4 + j, none⟩ = some (.int .u64 (d.s j))
  c12 : w.cell? ⟨y, 12, none⟩ = some (.int .i64 k)
  c13 : w.cell? ⟨y, 13, none⟩ = some lv
  c14 : w.cell? ⟨y, 14, none⟩ = some (.bool sn)
  fz : ∀ o, w.frozen? ⟨y, o, none⟩ = false
theorem rb_cells {w : World} {y : Nat} {d : BD} {k : Nat} {sn : Bool} {lv : Value} {T : TypeId} (h : w.heap[y]? = some (.cells (rbC d k sn lv) T)) : RBakR w y d k sn lv where
  c0 := by simp [World.cell?, h, rbC]
  c1 := by simp [World.cell?, h, rbC]
  c2 := by simp [World.cell?, h, rbC]
  c3 := by simp [World.cell?, h, rbC]
  rd := by
    intro k hk
    match k, hk with
    | 0, _ => simp [World.cell?, h, rbC]
    | 1, _ => simp [World.cell?, h, rbC]
    | 2, _ => simp [World.cell?, h, rbC]
    | 3, _ => simp [World.cell?, h, rbC]
    | 4, _ => simp [World.cell?, h, rbC]
    | 5, _ => simp [World.cell?, h, rbC]
    | 6, _ => simp [World.cell?, h, rbC]
    | 7, _ => simp [World.cell?, h, rbC]
  c12 := by simp [World.cell?, h, rbC]
  c13 := by simp [World.cell?, h, rbC]
  c14 := by simp [World.cell?, h, rbC]
  fz := fun o => by simp [World.frozen?, h]
theorem rbOver_any (y : Nat) (d : BD) (hd : BDOk d) (k : Nat) (L : List Int) (sn : Bool) : Looks Try.prog 33 #[.pointer (some ⟨y, 0, none⟩)] (RBakH y d k L sn) (.returned (.bool (k == d.W.length + 10))) := by
  rintro w F hO
  obtain ⟨_, hrow, _⟩ := (Stp.refl hO).has.left
  obtain ⟨a, c, hv⟩ := ownAt_form hrow
  obtain ⟨_, lv, g, _⟩ := (Stp.refl hO).has.right
  have hR := rb_cells g
  have c3 := hR.c3
  rw [hv] at c3
  have c12 := hR.c12
  have fz := hR.fz
  have hl := hd.len
  have HB : Hid (∀ n, Below w.heap.size w (w.drewN n)) := fun n => below_drewN (Below.refl _ _) _
  have HE : Hid (((k : Int) == (d.W.length : Int) + 10) = (k == d.W.length + 10)) := by
    show _ = _
    rw [Bool.eq_iff_iff]; simp; omega
  clear hO hrow hv g hR hd
  generalize d.W.length = N at *
  go_enter Try.func33, Try.ntmps33
  go_wp2_with fail
  go_quiet (fail)
  go_wp2_with fail
  go_ret
  exact ⟨ret_bool HE.out, HB.out _⟩
theorem rbLeft_any (y : Nat) (d : BD) (hd : BDOk d) (k : Nat) (hk : k ≤ 1000) (L : List Int) (sn : Bool) : Looks Try.prog 22 #[.pointer (some ⟨y, 0, none⟩)] (RBakH y d k L sn) (.returned (.int .i64 ((d.W.length - (k - 9) : Nat) : Int))) := by
  rintro w F hO
  obtain ⟨_, hrow, _⟩ := (Stp.refl hO).has.left
  obtain ⟨a, c, hv⟩ := ownAt_form hrow
  obtain ⟨_, lv, g, _⟩ := (Stp.refl hO).has.right
  have hR := rb_cells g
  have c3 := hR.c3
  rw [hv] at c3
  have c12 := hR.c12
  have fz := hR.fz
  have hl := hd.len
  clear hO hrow hv g hR hd
  generalize d.W.length = N at *
  by_cases h9 : k < 9
  · have h9i : (k : Int) - 9 < 0 := by omega
    go_enter Try.func22, Try.ntmps22
    go_wp2_with fail
    go_ret
    exact ⟨ret_i64 (by omega), Below.refl _ _⟩
  · have h9i : ¬ (k : Int) - 9 < 0 := by omega
    by_cases hN : (N : Int) < (k : Int) - 9
    · go_enter Try.func22, Try.ntmps22
      go_wp2_with fail
      go_ret
      exact ⟨ret_i64 (by omega), Below.refl _ _⟩
    · go_enter Try.func22, Try.ntmps22
      go_wp2_with fail
      go_ret
      exact ⟨ret_i64 (by omega), Below.refl _ _⟩
end Go.Proofs.Ytlmnljijpgpmiaa
namespace Go.Proofs.Ytlmnljijpgpmiaa
open Go.RowKit
set_option linter.unusedVariables false
theorem rbLacks_any (y r ring cells : Nat) (l : List Acc) (d : BD) (hd : BDOk d) (k : Nat) (L : List Int) (sn : Bool) (hn : ring = d.n) (hc : ∀ z ∈ d.W, z.1 < (cells : Int)) : Looks Try.prog 34 #[.pointer (some ⟨y, 0, none⟩), .pointer (some ⟨r, 0, none⟩)] (Star (RMemH r ring cells l) (RBakH y d k L sn)) (.returned (.bool false)) := by
  rintro w F hO
  obtain ⟨FR, lvr, g1, _⟩ := (Stp.refl hO).has.left
  obtain ⟨q0, q1, q2, qz⟩ := three_cells g1
  obtain ⟨_, hrow, _⟩ := (Stp.refl hO).has.right.left
  obtain ⟨a, c, hv⟩ := ownAt_form hrow
  obtain ⟨_, lv, g, _⟩ := (Stp.refl hO).has.right.right
  have hR := rb_cells g
  have c0 := hR.c0
  have c3 := hR.c3
  rw [hv] at c3
  have fz := hR.fz
  have HRW : Hid (∀ i z, d.W[i]? = some z → ∃ gg, a = some ⟨gg, 0, none⟩ ∧ w.cell? ⟨gg, i * 2, none⟩ = some (.int .i64 z.1)) := by
    intro i z hz
    obtain ⟨gg, cc, h1, h2, _⟩ := row_at hrow hz
    rw [hv] at h1
    simp only [Value.slice.injEq] at h1
    exact ⟨gg, h1.1, h2⟩
  have HC := Lib.hid hc
  have hl := hd.len
  rw [hn] at q1
  have e1 : ((d.n : Int) != (d.n : Int)) = false := by simp
  obtain ⟨N, hN⟩ : ∃ N, d.W.length = N := ⟨_, rfl⟩
  have HN := Lib.hid hN
  rw [hN] at c3 hl
  have G1 := Lib.hid g1
  have HROW := Lib.hid hrow
  have G2 := Lib.hid g
  clear hO g1 hrow g hR hd hc hn hN
  go_enter Try.func34, Try.ntmps34
  go_wp2_with fail
  go_quiet (fail)
  go_wp2_with fail
  go_loopw [5] (fun i wr => ∃ k : Nat, k ≤ N ∧ i = .int .i64 k ∧ Hid (Below w.heap.size w wr)) (fun i _ => N - (intOf i).toNat)
  case atStart => exact ⟨0, by omega, rfl, below_drewN (Below.refl _ _) _⟩
  case round =>
    obtain ⟨i, hi, rfl, HB⟩ := hrel
    have g3 := (HB.out.block y (Array.getElem?_eq_some_iff.mp G2.out).1).trans G2.out
    have g4 := (HB.out.block r (Array.getElem?_eq_some_iff.mp G1.out).1).trans G1.out
    have hR3 := rb_cells g3
    have d3 := hR3.c3
    rw [hv, HN.out] at d3
    have dz := hR3.fz
    obtain ⟨p0, p1, p2, pz⟩ := three_cells g4
    clear g3 g4 hR3 c0 c3 fz q0 q1 q2 qz
    by_cases hlt : i < N
    · have hlt2 : ((i : Int) < (N : Int)) := by omega
      obtain ⟨z, hz⟩ : ∃ z, d.W[i]? = some z := ⟨_, List.getElem?_eq_getElem (by rw [HN.out]; exact hlt)⟩
      obtain ⟨gg, rfl, hx⟩ := HRW.out i z hz
      have hx2 := (HB.out.cell (p := ⟨gg, i * 2, none⟩) (HROW.out.lt _ (by rw [hv]; rfl)).2).trans hx
      have hzc := HC.out z (List.mem_of_getElem? hz)
      have hzn : ¬ ((cells : Int) ≤ z.1) := by omega
      clear hx hz
      go_wp2_with fail
      go_quiet (fail)
      go_wp2_with fail
      exact ⟨⟨i + 1, by omega, by go_num, HB.out.trans ((below_drewN (Below.refl _ _) _).mono HB.out.size)⟩, by simp [intOf]; omega⟩
    · have hlt2 : ¬ ((i : Int) < (N : Int)) := by omega
      go_wp2_with fail
      go_ret
      exact ⟨rfl, HB.out⟩
theorem rbLacks_ring (y r ring cells : Nat) (l : List Acc) (d : BD) (hd : BDOk d) (k : Nat) (L : List Int) (sn : Bool) (hn : ring ≠ d.n) : Looks Try.prog 34 #[.pointer (some ⟨y, 0, none⟩), .pointer (some ⟨r, 0, none⟩)] (Star (RMemH r ring cells l) (RBakH y d k L sn)) (.returned (.bool true)) := by
  rintro w F hO
  obtain ⟨FR, lvr, g1, _⟩ := (Stp.refl hO).has.left
  obtain ⟨q0, q1, q2, qz⟩ := three_cells g1
  obtain ⟨_, lv, g, _⟩ := (Stp.refl hO).has.right.right
  have hR := rb_cells g
  have c0 := hR.c0
  have fz := hR.fz
  have HB : Hid (∀ n, Below w.heap.size w (w.drewN n)) := fun n => below_drewN (Below.refl _ _) _
  have e1 : ¬ (ring : Int) = (d.n : Int) := by omega
  clear hO g1 g hR hd hn
  generalize d.n = n at *
  go_enter Try.func34, Try.ntmps34
  go_wp2_with fail
  go_quiet (fail)
  go_wp2_with fail
  go_ret
  exact ⟨rfl, HB.out _⟩
theorem take_next11 {W : List (Int × Int)} {k : Nat} {y : Int × Int} (h : W[k]? = some y) : W.take (k + 1) = W.take k ++ [y] := by
  rw [List.take_add_one, h]; rfl
theorem rbLacks_cell (y r ring cells : Nat) (l : List Acc) (d : BD) (hd : BDOk d) (k : Nat) (L : List Int) (sn : Bool) (hn : ring = d.n) (hc : ∃ z ∈ d.W, (cells : Int) ≤ z.1) : Looks Try.prog 34 #[.pointer (some ⟨y, 0, none⟩), .pointer (some ⟨r, 0, none⟩)] (Star (RMemH r ring cells l) (RBakH y d k L sn)) (.returned (.bool true)) := by
  rintro w F hO
  obtain ⟨FR, lvr, g1, _⟩ := (Stp.refl hO).has.left
  obtain ⟨q0, q1, q2, qz⟩ := three_cells g1
  obtain ⟨_, hrow, _⟩ := (Stp.refl hO).has.right.left
  obtain ⟨a, c, hv⟩ := ownAt_form hrow
  obtain ⟨_, lv, g, _⟩ := (Stp.refl hO).has.right.right
  have hR := rb_cells g
  have c0 := hR.c0
  have c3 := hR.c3
  rw [hv] at c3
  have fz := hR.fz
  have HRW : Hid (∀ i z, d.W[i]? = some z → ∃ gg, a = some ⟨gg, 0, none⟩ ∧ w.cell? ⟨gg, i * 2, none⟩ = some (.int .i64 z.1)) := by
    intro i z hz
    obtain ⟨gg, cc, h1, h2, _⟩ := row_at hrow hz
    rw [hv] at h1
    simp only [Value.slice.injEq] at h1
    exact ⟨gg, h1.1, h2⟩
  have HC := Lib.hid hc
  have hl := hd.len
  rw [hn] at q1
  have e1 : ((d.n : Int) != (d.n : Int)) = false := by simp
  obtain ⟨N, hN⟩ : ∃ N, d.W.length = N := ⟨_, rfl⟩
  have HN := Lib.hid hN
  rw [hN] at c3 hl
  have G1 := Lib.hid g1
  have HROW := Lib.hid hrow
  have G2 := Lib.hid g
  clear hO g1 hrow g hR hd hc hn hN
  go_enter Try.func34, Try.ntmps34
  go_wp2_with fail
  go_quiet (fail)
  go_wp2_with fail
  go_loopw [5] (fun i wr => ∃ k : Nat, k ≤ N ∧ i = .int .i64 k ∧ Hid (Below w.heap.size w wr ∧ ∀ z ∈ d.W.take k, z.1 < (cells : Int))) (fun i _ => N - (intOf i).toNat)
  case atStart => exact ⟨0, by omega, rfl, below_drewN (Below.refl _ _) _, fun z hz => by simp at hz⟩
  case round =>
    obtain ⟨i, hi, rfl, HK⟩ := hrel
    have HB := Lib.hid HK.out.1
    have g3 := (HB.out.block y (Array.getElem?_eq_some_iff.mp G2.out).1).trans G2.out
    have g4 := (HB.out.block r (Array.getElem?_eq_some_iff.mp G1.out).1).trans G1.out
    have hR3 := rb_cells g3
    have d3 := hR3.c3
    rw [hv, HN.out] at d3
    have dz := hR3.fz
    obtain ⟨p0, p1, p2, pz⟩ := three_cells g4
    clear g3 g4 hR3 c0 c3 fz q0 q1 q2 qz
    by_cases hlt : i < N
    · have hlt2 : ((i : Int) < (N : Int)) := by omega
      obtain ⟨z, hz⟩ : ∃ z, d.W[i]? = some z := ⟨_, List.getElem?_eq_getElem (by rw [HN.out]; exact hlt)⟩
      obtain ⟨gg, rfl, hx⟩ := HRW.out i z hz
      have hx2 := (HB.out.cell (p := ⟨gg, i * 2, none⟩) (HROW.out.lt _ (by rw [hv]; rfl)).2).trans hx
      have HZ := Lib.hid hz
      clear hx hz
      by_cases hzn : (cells : Int) ≤ z.1
      · go_wp2_with fail
        go_quiet (fail)
        go_wp2_with fail
        go_ret
        exact ⟨rfl, HB.out.trans ((below_drewN (Below.refl _ _) _).mono HB.out.size)⟩
      · go_wp2_with fail
        go_quiet (fail)
        go_wp2_with fail
        refine ⟨⟨i + 1, by omega, by go_num, HB.out.trans ((below_drewN (Below.refl _ _) _).mono HB.out.size), ?_⟩, by simp [intOf]; omega⟩
        intro u hu
        rw [take_next11 HZ.out] at hu
        rcases List.mem_append.1 hu with hu | hu
        · exact HK.out.2 u hu
        · rw [List.mem_singleton.1 hu]; omega
    · exfalso
      obtain ⟨z, hz, hzc⟩ := HC.out
      have h := HK.out.2
      rw [List.take_of_length_le (by rw [HN.out]; omega)] at h
      have := h z hz
      omega
end Go.Proofs.Ytlmnljijpgpmiaa
namespace Go.Proofs.Ytlmnljijpgpmiaa
open Go.RowKit
set_option linter.unusedVariables false
/-- The memory and the reference's machine. -/
abbrev RBM (r y ring cells : Nat) (l : List Acc) (d : BD) (k : Nat) (L : List Int) (sn : Bool) : HP := Star (RMemH r ring cells l) (RBakH y d k L sn)
theorem RBM.good (r y ring cells : Nat) (l : List Acc) (d : BD) (k : Nat) (L : List Int) (sn : Bool) : Good (RBM r y ring cells l d k L sn) := (RMemH.good _ _ _ _).star (RBakH.good _ _ _ _ _)
theorem rbLacks_all (y r ring cells : Nat) (l : List Acc) (d : BD) (hd : BDOk d) (k : Nat) (L : List Int) (sn : Bool) : ∃ q : Bool, Looks Try.prog 34 #[.pointer (some ⟨y, 0, none⟩), .pointer (some ⟨r, 0, none⟩)] (RBM r y ring cells l d k L sn) (.returned (.bool q)) ∧ (q = false ↔ (ring = d.n ∧ ∀ z ∈ d.W, z.1 < (cells : Int))) := by
  by_cases h1 : ring = d.n
  · by_cases h2 : ∀ z ∈ d.W, z.1 < (cells : Int)
    · exact ⟨false, rbLacks_any y r ring cells l d hd k L sn h1 h2, fun _ => ⟨h1, h2⟩, fun _ => rfl⟩
    · refine ⟨true, rbLacks_cell y r ring cells l d hd k L sn h1 ?_, ⟨fun h => absurd h (by decide), fun h => absurd h.2 h2⟩⟩
      apply Classical.byContradiction
      intro h3
      exact h2 fun z hz => by
        by_cases h : z.1 < (cells : Int)
        · exact h
        · exact absurd ⟨z, hz, by omega⟩ h3
  · exact ⟨true, rbLacks_ring y r ring cells l d hd k L sn h1, ⟨fun h => absurd h (by decide), fun h => absurd h.1 h1⟩⟩
set_option maxHeartbeats 2000000 in
set_option maxRecDepth 100000 in
theorem rbStep_none (r y ring cells : Nat) (l : List Acc) (d : BD) (hd : BDOk d) (k : Nat) (L : List Int) (sn : Bool) (th : Int) (h : k = d.W.length + 10 ∨ ¬ (ring = d.n ∧ ∀ z ∈ d.W, z.1 < (cells : Int))) :
    Lifts Try.prog 21 #[.pointer (some ⟨y, 0, none⟩), .pointer (some ⟨r, 0, none⟩), .int .i64 th] (RBM r y ring cells l d k L sn) (RBM r y ring cells l d k L sn) (.returned (.int .i64 0)) := by
  rintro w F hO
  obtain ⟨q, hL, hq⟩ := rbLacks_all y r ring cells l d hd k L sn
  have hoq : (k == d.W.length + 10) = true ∨ q = true := by
    rcases h with h | h
    · exact .inl (by simp [h])
    · cases q
      · exact absurd (hq.1 rfl) h
      · exact .inr rfl
  have HA := Lib.hid (fun w1 (h : Stp w w1 F (RBM r y ring cells l d k L sn)) => Stp.look (RBM.good _ _ _ _ _ _ _ _ _) (Looks.right (A := RMemH r ring cells l) (rbOver_any y d hd k L sn)) h)
  have HL := Lib.hid (fun w1 (h : Stp w w1 F (RBM r y ring cells l d k L sn)) => Stp.look (RBM.good _ _ _ _ _ _ _ _ _) hL h)
  have HS := Lib.hid (Stp.refl hO)
  clear hL hq h hO
  generalize (k == d.W.length + 10) = o at *
  go_enter Try.func21, Try.ntmps21
  go_wp2_with fail
  refine (HA.out _ HS.out).mono ?_; rintro e w2 ⟨rfl, h2⟩
  go_wp2_with fail
  refine (HL.out _ h2).mono ?_; rintro e w3 ⟨rfl, h3⟩
  have H3 := Lib.hid h3
  clear h2 h3 HA HL HS
  rcases hoq with rfl | rfl
  · go_wp2_with fail
    refine bodyPost_ret (v := _) (by simp [results, Try.results21, go_sem]; rfl) rfl ?_
    exact ⟨rfl, H3.out⟩
  · cases o
    · go_wp2_with fail
      refine bodyPost_ret (v := _) (by simp [results, Try.results21, go_sem]; rfl) rfl ?_
      exact ⟨rfl, H3.out⟩
    · go_wp2_with fail
      refine bodyPost_ret (v := _) (by simp [results, Try.results21, go_sem]; rfl) rfl ?_
      exact ⟨rfl, H3.out⟩
end Go.Proofs.Ytlmnljijpgpmiaa
namespace Go.Proofs.Ytlmnljijpgpmiaa
open Go.RowKit
set_option linter.unusedVariables false
theorem LstH.set11 {y : Nat} {f f' : Value → Array Value} {T E : TypeId} {L : List Int} {w : World} (i : Nat) (v : Value) (h : ∀ lv, (f lv).setIfInBounds i v = f' lv) : Moves (LstH y f T E L) (LstH y f' T E L) w (w.setCell ⟨y, i, none⟩ v) := by
  rintro F ⟨lv, h1, h2, h3, h4⟩
  refine ⟨F, ⟨lv, (heapSet_eq _ _ _ _ _ _ _ h1).trans (by rw [h]), own_chg h2 (Chg.setCell _ _ _) (fun b hb (e : b = y) => h3 (by rw [hb, e])), h3, h4⟩, (Chg.refl F w).set _ _ (.inr ((h4 y).2 (.inl rfl))), fun _ h => .inl h⟩
theorem RBM.cells {w w1 : World} {F : Nat → Prop} {r y ring cells : Nat} {l : List Acc} {d : BD} {k : Nat} {L : List Int} {sn : Bool} (h : Stp w w1 F (RBM r y ring cells l d k L sn)) : ∃ lv, RBakR w1 y d k sn lv := by
  obtain ⟨_, lv, g, _⟩ := h.has.right.right
  exact ⟨lv, rb_cells g⟩
set_option maxHeartbeats 2000000 in
set_option maxRecDepth 100000 in
theorem rbStep_word (r y cells : Nat) (l : List Acc) (hlen : l.length ≤ 3000000000000) (d : BD) (hd : BDOk d) (k : Nat) (h8 : k < 8) (L : List Int) (sn : Bool) (th : Int) (hc : ∀ z ∈ d.W, z.1 < (cells : Int)) :
    Lifts Try.prog 21 #[.pointer (some ⟨y, 0, none⟩), .pointer (some ⟨r, 0, none⟩), .int .i64 th] (RBM r y d.n cells l d k L sn) (RBM r y d.n cells (l ++ [stAcc th 3 (slotZ d.st d.n) k (wrap64 (d.s k))]) d (k + 1) L sn) (.returned (.int .i64 2)) := by
  rintro w F hO
  have hOv := rbOver_any y d hd k L sn
  rw [show (k == d.W.length + 10) = false by simp; omega] at hOv
  have HA := Lib.hid (fun w1 (h : Stp w w1 F (RBM r y d.n cells l d k L sn)) => Stp.look (RBM.good _ _ _ _ _ _ _ _ _) (Looks.right (A := RMemH r d.n cells l) hOv) h)
  have HL := Lib.hid (fun w1 (h : Stp w w1 F (RBM r y d.n cells l d k L sn)) => Stp.look (RBM.good _ _ _ _ _ _ _ _ _) (rbLacks_any y r d.n cells l d hd k L sn rfl hc) h)
  have HST := Lib.hid (fun w1 (h : Stp w w1 F (RBM r y d.n cells l d k L sn)) => Stp.lift (Lifts.left (B := RBakH y d k L sn) (RBakH.good _ _ _ _ _) (rstore_in r d.n cells l hlen th 3 (slotZ d.st d.n) k (wrap64 (d.s k)) (.inr (.inr (.inl ⟨rfl, slotZ_lt d.st d.n (by have := hd.n; omega) (by have := hd.n; omega), by omega, by omega⟩))))) h)
  have HSL := Lib.hid (fun w => (refSlot_any d.st d.n w).mono fun _ _ h => (⟨h.1, h.2.symm⟩ : _ = _ ∧ _ = _))
  have HS := Lib.hid (Stp.refl hO)
  have h8i : (k : Int) < 8 := by omega
  have h0i : (0 : Int) ≤ k := by omega
  clear hO
  go_enter Try.func21, Try.ntmps21
  go_wp2_with fail
  refine (HA.out _ HS.out).mono ?_; rintro e w2 ⟨rfl, h2⟩
  go_wp2_with fail
  refine (HL.out _ h2).mono ?_; rintro e w3 ⟨rfl, h3⟩
  have H3 := Lib.hid h3
  obtain ⟨lv, hR⟩ := RBM.cells h3
  have c0 := hR.c0
  have c2 := hR.c2
  have c12 := hR.c12
  have cd := hR.rd _ h8
  have fz := hR.fz
  clear h2 h3 HA HL HS hR
  go_wp2_with fail
  go_quiet ((go_at_call 35; refine Calls.quiet_of_same (HSL.out _)))
  have H4 := Lib.hid (H3.out.below (RBM.good _ _ _ _ _ _ _ _ _) (below_drewN (Below.refl _ _) nq))
  obtain ⟨lv4, hR4⟩ := RBM.cells H4.out
  have k12 := hR4.c12
  have kd := hR4.rd _ h8
  have kz := hR4.fz
  generalize w3.drewN nq = w4 at *
  clear hR4 c0 c2 c12 cd fz
  have HB8 := Lib.hid h8
  generalize hz : d.s k = z at *
  have HZ : Hid (IntKind.i64.wrap z = wrap64 z) := by
    show _ = _
    first | rfl | (rw [IntKind.wrap_i64]; unfold wrap64; rfl) | (rw [IntKind.wrap_i64]; unfold wrap64; omega)
  have HL := Lib.hid (HST.out _ (H4.out.drew (RBM.good _ _ _ _ _ _ _ _ _)))
  clear HST
  go_wp2_with fail
  go_region_held3 (fun wx => wx.cell? ⟨y, 12, none⟩ = some (.int .i64 k) ∧ wx.cell? ⟨y, 4 + k, none⟩ = some (.int .u64 z)) (first | exact ⟨k12, kd⟩ | (refine ⟨?_, ?_⟩ <;> assumption)) ((go_at_call 20; rw [HZ.out]; (with_reducible refine HL.out.mono ?_); rintro e w5 ⟨rfl, h5⟩; have H5 := Lib.hid h5; obtain ⟨lv5, hR5⟩ := RBM.cells h5; have m12 := hR5.c12; have md := hR5.rd _ HB8.out; rw [hz] at md))
  obtain ⟨lv6, hR6⟩ := RBM.cells H5.out
  have n12 := hR6.c12
  have nz := hR6.fz
  have HSET : Hid (∀ w1 v, v = ((k + 1 : Nat) : Int) → Stp w w1 F (RBM r y d.n cells (l ++ [stAcc th 3 (slotZ d.st d.n) k (wrap64 z)]) d k L sn) → Stp w (w1.setCell ⟨y, 12, none⟩ (.int .i64 v)) F (RBM r y d.n cells (l ++ [stAcc th 3 (slotZ d.st d.n) k (wrap64 z)]) d (k + 1) L sn)) := fun w1 v hv h => by
    subst hv
    exact h.move (Moves.right (RMemH.good _ _ _ _) (Moves.right (RowH.good _ _) (LstH.set11 (f' := rbC d (k + 1) sn) 12 (.int .i64 ((k + 1 : Nat) : Int)) (fun _ => rfl))))
  have HB1 : Hid ((k : Int) + 1 = ((k + 1 : Nat) : Int)) := by show _ = _; omega
  clear hR6 m12 md k12 kd kz hR5 h5
  go_wp2_with fail
  refine bodyPost_ret (v := _) (by simp [results, Try.results21, go_sem]; rfl) rfl ?_
  have hfin := HSET.out _ _ HB1.out H5.out
  rw [← hz] at hfin
  exact ⟨rfl, hfin⟩
end Go.Proofs.Ytlmnljijpgpmiaa
namespace Go.Proofs.Ytlmnljijpgpmiaa
open Go.RowKit
set_option linter.unusedVariables false
set_option maxHeartbeats 2000000 in
set_option maxRecDepth 100000 in
theorem rbStep_head (r y cells : Nat) (l : List Acc) (hlen : l.length ≤ 3000000000000) (d : BD) (hd : BDOk d) (k : Nat) (h8 : k = 8) (L : List Int) (sn : Bool) (th : Int) (hc : ∀ z ∈ d.W, z.1 < (cells : Int)) :
    Lifts Try.prog 21 #[.pointer (some ⟨y, 0, none⟩), .pointer (some ⟨r, 0, none⟩), .int .i64 th] (RBM r y d.n cells l d k L sn) (RBM r y d.n cells (l ++ [stAcc th 2 (slotZ d.st d.n) 0 (2 * d.st)]) d (k + 1) L sn) (.returned (.int .i64 2)) := by
  rintro w F hO
  have hOv := rbOver_any y d hd k L sn
  rw [show (k == d.W.length + 10) = false by simp; omega] at hOv
  have HA := Lib.hid (fun w1 (h : Stp w w1 F (RBM r y d.n cells l d k L sn)) => Stp.look (RBM.good _ _ _ _ _ _ _ _ _) (Looks.right (A := RMemH r d.n cells l) hOv) h)
  have HL := Lib.hid (fun w1 (h : Stp w w1 F (RBM r y d.n cells l d k L sn)) => Stp.look (RBM.good _ _ _ _ _ _ _ _ _) (rbLacks_any y r d.n cells l d hd k L sn rfl hc) h)
  have HST := Lib.hid (fun w1 (h : Stp w w1 F (RBM r y d.n cells l d k L sn)) => Stp.lift (Lifts.left (B := RBakH y d k L sn) (RBakH.good _ _ _ _ _) (rstore_in r d.n cells l hlen th 2 (slotZ d.st d.n) 0 (2 * d.st) (.inr (.inl ⟨rfl, slotZ_lt d.st d.n (by have := hd.n; omega) (by have := hd.n; omega), rfl⟩)))) h)
  have HSL := Lib.hid (fun w => (refSlot_any d.st d.n w).mono fun _ _ h => (⟨h.1, h.2.symm⟩ : _ = _ ∧ _ = _))
  have HS := Lib.hid (Stp.refl hO)
  have h8i : (k : Int) = 8 := by omega
  have HST2 : Hid (1 ≤ d.st ∧ d.st ≤ 1099511627776) := hd.st
  clear hO
  go_enter Try.func21, Try.ntmps21
  go_wp2_with fail
  refine (HA.out _ HS.out).mono ?_; rintro e w2 ⟨rfl, h2⟩
  go_wp2_with fail
  refine (HL.out _ h2).mono ?_; rintro e w3 ⟨rfl, h3⟩
  have H3 := Lib.hid h3
  obtain ⟨lv, hR⟩ := RBM.cells h3
  have c0 := hR.c0
  have c2 := hR.c2
  have c12 := hR.c12
  rw [h8i] at c12
  have fz := hR.fz
  clear h2 h3 HA HL HS hR
  go_wp2_with fail
  go_quiet ((go_at_call 35; refine Calls.quiet_of_same (HSL.out _)))
  have H4 := Lib.hid (H3.out.below (RBM.good _ _ _ _ _ _ _ _ _) (below_drewN (Below.refl _ _) nq))
  obtain ⟨lv4, hR4⟩ := RBM.cells H4.out
  have k12 := hR4.c12
  have k2 := hR4.c2
  rw [h8i] at k12
  have kz := hR4.fz
  generalize w3.drewN nq = w4 at *
  clear hR4 c0 c2 c12 fz
  have HW2 : Hid (wrap64 (2 * d.st) = 2 * d.st) := by
    show _ = _
    have h := HST2.out
    unfold wrap64; omega
  have HL := Lib.hid (HST.out _ (H4.out.drew (RBM.good _ _ _ _ _ _ _ _ _)))
  go_wp2_with fail
  rw [HW2.out]
  refine (HST.out _ H4.out).mono ?_; rintro e w5 ⟨rfl, h5⟩
  have H5 := Lib.hid h5
  obtain ⟨lv6, hR6⟩ := RBM.cells h5
  have n12 := hR6.c12
  rw [h8i] at n12
  have nz := hR6.fz
  have HSET : Hid (∀ w1 v, v = ((k + 1 : Nat) : Int) → Stp w w1 F (RBM r y d.n cells (l ++ [stAcc th 2 (slotZ d.st d.n) 0 (2 * d.st)]) d k L sn) → Stp w (w1.setCell ⟨y, 12, none⟩ (.int .i64 v)) F (RBM r y d.n cells (l ++ [stAcc th 2 (slotZ d.st d.n) 0 (2 * d.st)]) d (k + 1) L sn)) := fun w1 v hv h => by
    subst hv
    exact h.move (Moves.right (RMemH.good _ _ _ _) (Moves.right (RowH.good _ _) (LstH.set11 (f' := rbC d (k + 1) sn) 12 (.int .i64 ((k + 1 : Nat) : Int)) (fun _ => rfl))))
  have HB1 : Hid ((9 : Int) = ((k + 1 : Nat) : Int)) := by show _ = _; omega
  clear hR6 k12 k2 kz h5 HST HL
  go_wp2_with fail
  refine bodyPost_ret (v := _) (by simp [results, Try.results21, go_sem]; rfl) rfl ?_
  exact ⟨rfl, HSET.out _ _ HB1.out H5.out⟩
end Go.Proofs.Ytlmnljijpgpmiaa
namespace Go.Proofs.Ytlmnljijpgpmiaa
open Go.RowKit
/-- What is looked at next: through, known, meets, head, the stamp, the address. -/
def lookP (n : Nat) (c : BK) : Bool × Bool × Bool × Bool × Int × Int × Int × Int :=
  if c.nx = 5 then (true, c.known, false, false, 0, 0, 0, 0)
  else if c.nx = 2 then (false, false, false, true, c.sp, 2, slotZ c.sp n, 0)
  else if c.nx = 3 then (false, false, false, false, c.sp, 3, slotZ c.sp n, c.word)
  else (false, false, true, true, c.sp, 2, slotZ c.sp n, 0)
/-- The loop over the stamps, at sp, with A numbers taken up. -/
def LkO (n : Nat) (mu : Bool) (st : Int) (s : Nat → Int) (L : List Int) (sp : Int) (A : Nat) : Prop :=
  ∃ b : BK, b.known = false ∧ b.left = 1 ∧ RepB n mu st s L = (L.drop A).foldl (repK n st s) (oldK n st b sp)
/-- The loop over the words, at j. -/
def LkI (n : Nat) (mu : Bool) (st : Int) (s : Nat → Int) (L : List Int) (sp : Int) (A j : Nat) : Prop :=
  ∃ b : BK, b.known = false ∧ b.left = 1 ∧ b.sp = sp ∧ RepB n mu st s L = (L.drop A).foldl (repK n st s) (wdgK n st s b j)
theorem and_comm64b (a b : Int) : bits .and .u64 a b = bits .and .u64 b a := by
  unfold bits
  have e : BitVec.ofInt IntKind.u64.bits a &&& BitVec.ofInt IntKind.u64.bits b = BitVec.ofInt IntKind.u64.bits b &&& BitVec.ofInt IntKind.u64.bits a := BitVec.and_comm _ _
  simp only [e]
theorem drop_at {L : List Int} {A : Nat} {v : Int} (h : L[A]? = some v) : L.drop A = v :: L.drop (A + 1) := by
  obtain ⟨h1, h2⟩ := List.getElem?_eq_some_iff.1 h
  rw [List.drop_eq_getElem_cons h1, h2]
theorem lk_known {n : Nat} {mu : Bool} {st : Int} (s : Nat → Int) (L : List Int) (h : knK n mu st = true) : lookP n (RepB n mu st s L) = (true, true, false, false, 0, 0, 0, 0) := by
  unfold RepB rep0
  rw [if_pos h, rep_thr _ _ _ _ rfl]
  rfl
theorem LkO.start {n : Nat} {mu : Bool} {st : Int} (s : Nat → Int) (L : List Int) (h : knK n mu st = false) : LkO n mu st s L (st - 1) 0 := by
  refine ⟨⟨1, 8, 0, 0, false, 1⟩, rfl, rfl, ?_⟩
  unfold RepB rep0
  rw [if_neg (by rw [h]; decide)]
  rfl
theorem LkO.out {n : Nat} {mu : Bool} {st : Int} {s : Nat → Int} {L : List Int} {sp : Int} {A : Nat} (h : LkO n mu st s L sp A) (hs : sp < 1 ∨ sp ≤ st - n) : lookP n (RepB n mu st s L) = (true, false, false, false, 0, 0, 0, 0) := by
  obtain ⟨b, hk, hl, e⟩ := h
  unfold oldK at e
  rw [if_pos hs] at e
  have h5 : (rdyK { b with sp := sp }).nx = 5 := if_pos (show 0 < b.left by omega)
  rw [e, rep_thr _ _ _ _ h5]
  unfold lookP
  rw [if_pos h5]
  show (true, b.known, _, _, _, _, _, _) = _
  rw [hk]
theorem LkO.here {n : Nat} {mu : Bool} {st : Int} {s : Nat → Int} {L : List Int} {sp : Int} {A : Nat} (h : LkO n mu st s L sp A) (hs : ¬ (sp < 1 ∨ sp ≤ st - n)) : ∃ b : BK, b.known = false ∧ b.left = 1 ∧ b.sp = sp ∧ b.nx = 2 ∧ RepB n mu st s L = (L.drop A).foldl (repK n st s) b := by
  obtain ⟨b, hk, hl, e⟩ := h
  unfold oldK at e
  rw [if_neg hs] at e
  exact ⟨{ b with sp := sp, nx := 2 }, hk, hl, rfl, rfl, e⟩
theorem LkO.end {n : Nat} {mu : Bool} {st : Int} {s : Nat → Int} {L : List Int} {sp : Int} {A : Nat} (h : LkO n mu st s L sp A) (hs : ¬ (sp < 1 ∨ sp ≤ st - n)) (hA : A = L.length) : lookP n (RepB n mu st s L) = (false, false, false, true, sp, 2, slotZ sp n, 0) := by
  obtain ⟨b, hk, hl, hp, hx, e⟩ := h.here hs
  rw [e, hA, List.drop_length]
  show lookP n b = _
  unfold lookP
  rw [if_neg (by omega), if_pos hx, hp]
theorem thr_look {n : Nat} {st : Int} {s : Nat → Int} {b : BK} (hl : b.left = 1) (L : List Int) : lookP n (L.foldl (repK n st s) (ovrK st b)) = (true, b.sp == st - 1, false, false, 0, 0, 0, 0) := by
  have h5 : (ovrK st b).nx = 5 := if_pos (show 0 < b.left by omega)
  rw [rep_thr _ _ _ _ h5]
  unfold lookP
  rw [if_pos h5]
  rfl
theorem LkO.over {n : Nat} {mu : Bool} {st : Int} {s : Nat → Int} {L : List Int} {sp : Int} {A : Nat} {v : Int} (h : LkO n mu st s L sp A) (hs : ¬ (sp < 1 ∨ sp ≤ st - n)) (hv : L[A]? = some v) (ho : overB v sp = true) : lookP n (RepB n mu st s L) = (true, sp == st - 1, false, false, 0, 0, 0, 0) := by
  obtain ⟨b, hk, hl, hp, hx, e⟩ := h.here hs
  rw [e, drop_at hv, List.foldl_cons, show repK n st s b v = ovrK st b by unfold repK; rw [if_pos hx, hp, if_pos ho], thr_look hl, hp]
theorem LkO.on {n : Nat} {mu : Bool} {st : Int} {s : Nat → Int} {L : List Int} {sp : Int} {A : Nat} {v : Int} (h : LkO n mu st s L sp A) (hs : ¬ (sp < 1 ∨ sp ≤ st - n)) (hv : L[A]? = some v) (ho : overB v sp = false) : LkI n mu st s L sp (A + 1) 0 := by
  obtain ⟨b, hk, hl, hp, hx, e⟩ := h.here hs
  refine ⟨b, hk, hl, hp, ?_⟩
  rw [e, drop_at hv, List.foldl_cons, show repK n st s b v = wdgK n st s b 0 by unfold repK; rw [if_pos hx, hp, if_neg (by rw [ho]; decide)]]
theorem LkI.zero {n : Nat} {mu : Bool} {st : Int} {s : Nat → Int} {L : List Int} {sp : Int} {A j : Nat} (h : LkI n mu st s L sp A j) (hj : j < 8) (hz : s j = 0) : LkI n mu st s L sp A (j + 1) := by
  obtain ⟨b, hk, hl, hp, e⟩ := h
  refine ⟨b, hk, hl, hp, ?_⟩
  rw [e]
  unfold wdgK
  rw [nextW_zero hj hz]
theorem LkI.close {n : Nat} {mu : Bool} {st : Int} {s : Nat → Int} {L : List Int} {sp : Int} {A : Nat} (h : LkI n mu st s L sp A 8) : LkO n mu st s L (sp - 1) A := by
  obtain ⟨b, hk, hl, hp, e⟩ := h
  refine ⟨{ b with word := 8 }, hk, hl, ?_⟩
  rw [e]
  unfold wdgK
  rw [nextW_end, if_neg (by omega), hp]
theorem LkI.here {n : Nat} {mu : Bool} {st : Int} {s : Nat → Int} {L : List Int} {sp : Int} {A j : Nat} (h : LkI n mu st s L sp A j) (hj : j < 8) (hz : s j ≠ 0) : ∃ b : BK, b.known = false ∧ b.left = 1 ∧ b.sp = sp ∧ b.nx = 3 ∧ b.word = j ∧ RepB n mu st s L = (L.drop A).foldl (repK n st s) b := by
  obtain ⟨b, hk, hl, hp, e⟩ := h
  unfold wdgK at e
  rw [nextW_here hj hz, if_pos hj] at e
  exact ⟨{ b with word := j, nx := 3 }, hk, hl, hp, rfl, rfl, e⟩
theorem LkI.end {n : Nat} {mu : Bool} {st : Int} {s : Nat → Int} {L : List Int} {sp : Int} {A j : Nat} (h : LkI n mu st s L sp A j) (hj : j < 8) (hz : s j ≠ 0) (hA : A = L.length) : lookP n (RepB n mu st s L) = (false, false, false, false, sp, 3, slotZ sp n, (j : Int)) := by
  obtain ⟨b, hk, hl, hp, hx, hw, e⟩ := h.here hj hz
  rw [e, hA, List.drop_length]
  show lookP n b = _
  unfold lookP
  rw [if_neg (by omega), if_neg (by omega), if_pos hx, hp, hw]
theorem LkI.miss {n : Nat} {mu : Bool} {st : Int} {s : Nat → Int} {L : List Int} {sp : Int} {A j : Nat} {v : Int} (h : LkI n mu st s L sp A j) (hj : j < 8) (hz : s j ≠ 0) (hv : L[A]? = some v) (hb : bits .and .u64 (s j) (IntKind.u64.wrap v) = 0) : LkI n mu st s L sp (A + 1) (j + 1) := by
  obtain ⟨b, hk, hl, hp, hx, hw, e⟩ := h.here hj hz
  refine ⟨b, hk, hl, hp, ?_⟩
  rw [e, drop_at hv, List.foldl_cons, show repK n st s b v = wdgK n st s b (j + 1) by
    unfold repK
    rw [if_neg (by omega), if_pos hx, hw, Int.toNat_natCast, if_neg (by rw [and_comm64b, hb]; decide)]]
theorem LkI.hit {n : Nat} {mu : Bool} {st : Int} {s : Nat → Int} {L : List Int} {sp : Int} {A j : Nat} {v : Int} (h : LkI n mu st s L sp A j) (hj : j < 8) (hz : s j ≠ 0) (hv : L[A]? = some v) (hb : bits .and .u64 (s j) (IntKind.u64.wrap v) ≠ 0) : ∃ b : BK, b.known = false ∧ b.left = 1 ∧ b.sp = sp ∧ b.nx = 4 ∧ RepB n mu st s L = (L.drop (A + 1)).foldl (repK n st s) b := by
  obtain ⟨b, hk, hl, hp, hx, hw, e⟩ := h.here hj hz
  refine ⟨{ b with nx := 4 }, hk, hl, hp, rfl, ?_⟩
  rw [e, drop_at hv, List.foldl_cons, show repK n st s b v = { b with nx := 4 } by
    unfold repK
    rw [if_neg (by omega), if_pos hx, hw, Int.toNat_natCast, if_pos (by rw [and_comm64b]; exact hb)]]
theorem LkI.meets {n : Nat} {mu : Bool} {st : Int} {s : Nat → Int} {L : List Int} {sp : Int} {A j : Nat} {v : Int} (h : LkI n mu st s L sp A j) (hj : j < 8) (hz : s j ≠ 0) (hv : L[A]? = some v) (hb : bits .and .u64 (s j) (IntKind.u64.wrap v) ≠ 0) (hA : A + 1 = L.length) : lookP n (RepB n mu st s L) = (false, false, true, true, sp, 2, slotZ sp n, 0) := by
  obtain ⟨b, hk, hl, hp, hx, e⟩ := h.hit hj hz hv hb
  rw [e, hA, List.drop_length]
  show lookP n b = _
  unfold lookP
  rw [if_neg (by omega), if_neg (by omega), if_neg (by omega), hp]
theorem LkI.past {n : Nat} {mu : Bool} {st : Int} {s : Nat → Int} {L : List Int} {sp : Int} {A j : Nat} {v : Int} (h : LkI n mu st s L sp A j) (hj : j < 8) (hz : s j ≠ 0) (hv : L[A]? = some v) (hb : bits .and .u64 (s j) (IntKind.u64.wrap v) ≠ 0) (hA : A + 1 < L.length) : lookP n (RepB n mu st s L) = (true, sp == st - 1, false, false, 0, 0, 0, 0) := by
  obtain ⟨b, hk, hl, hp, hx, e⟩ := h.hit hj hz hv hb
  rw [e, drop_at (List.getElem?_eq_getElem hA), List.foldl_cons, show repK n st s b L[A + 1] = ovrK st b by
    unfold repK
    rw [if_neg (by omega), if_neg (by omega), if_pos hx], thr_look hl, hp]
end Go.Proofs.Ytlmnljijpgpmiaa
namespace Go.Proofs.Ytlmnljijpgpmiaa
open Go.RowKit
set_option linter.unusedVariables false
/-- What looks() answers. -/
def lookV (p : Bool × Bool × Bool × Bool × Int × Int × Int × Int) : Value := .agg #[.bool p.1, .bool p.2.1, .bool p.2.2.1, .bool p.2.2.2.1, .int .i64 p.2.2.2.2.1, .int .i64 p.2.2.2.2.2.1, .int .i64 p.2.2.2.2.2.2.1, .int .i64 p.2.2.2.2.2.2.2]
theorem look_cells {w : World} {p : Nat} {a b c d e f g h : Value} {T : TypeId} (hh : w.heap[p]? = some (.cells #[a, b, c, d, e, f, g, h] T)) :
    w.cell? ⟨p, 0, none⟩ = some a ∧ w.cell? ⟨p, 1, none⟩ = some b ∧ w.cell? ⟨p, 2, none⟩ = some c ∧ w.cell? ⟨p, 3, none⟩ = some d ∧ w.cell? ⟨p, 4, none⟩ = some e ∧ w.cell? ⟨p, 5, none⟩ = some f ∧ w.cell? ⟨p, 6, none⟩ = some g ∧ w.cell? ⟨p, 7, none⟩ = some h ∧ ∀ o, w.frozen? ⟨p, o, none⟩ = false :=
  ⟨by simp [World.cell?, hh], by simp [World.cell?, hh], by simp [World.cell?, hh], by simp [World.cell?, hh], by simp [World.cell?, hh], by simp [World.cell?, hh], by simp [World.cell?, hh], by simp [World.cell?, hh], fun o => by simp [World.frozen?, hh]⟩
theorem set8_look {B : Nat} {w0 w : World} (h : Below B w0 w) {b : Nat} (hb : B ≤ b) (v0 v1 v2 v3 v4 v5 v6 v7 : Value) : Below B w0 ((((((((w.setCell ⟨b, 0, none⟩ v0).setCell ⟨b, 1, none⟩ v1).setCell ⟨b, 2, none⟩ v2).setCell ⟨b, 3, none⟩ v3).setCell ⟨b, 4, none⟩ v4).setCell ⟨b, 5, none⟩ v5).setCell ⟨b, 6, none⟩ v6).setCell ⟨b, 7, none⟩ v7) :=
  (((((((h.setCell hb _).setCell hb _).setCell hb _).setCell hb _).setCell hb _).setCell hb _).setCell hb _).setCell hb _
abbrev lookBox (w1 : World) (bw : Nat) : Prop := w1.heap[bw]? = some (.cells #[.bool false, .bool false, .bool false, .bool false, .int .i64 0, .int .i64 0, .int .i64 0, .int .i64 0] 99)
/-- What the walk keeps. -/
structure LkKeep (w w1 : World) (y : Nat) (d : BD) (k : Nat) (sn : Bool) (lv : Value) (L : List Int) : Prop where
  hb : Below w.heap.size w w1
  hy : w1.heap[y]? = some (.cells (rbC d k sn lv) 73)
  hbx : lookBox w1 w.heap.size
  ho : w1.ownsRow 0 2 1 lv L.length (L.map (Value.int .i64))
theorem LkKeep.calm {w w1 wr : World} {y k : Nat} {d : BD} {sn : Bool} {lv : Value} {L : List Int} (h : LkKeep w w1 y d k sn lv L) (hb : Below w1.heap.size w1 wr) : LkKeep w wr y d k sn lv L :=
  ⟨h.hb.trans (hb.mono h.hb.size), (hb.block y (heap_lt h.hy)).trans h.hy, (hb.block _ (heap_lt h.hbx)).trans h.hbx, own_calm h.ho hb⟩
set_option maxHeartbeats 4000000 in
set_option maxRecDepth 100000 in
theorem rbLooks_known (y : Nat) (d : BD) (hd : BDOk d) (k : Nat) (L : List Int) (sn : Bool) (hk : knK d.n d.mu d.st = true) :
    Looks Try.prog 36 #[.pointer (some ⟨y, 0, none⟩)] (RBakH y d k L sn) (.returned (lookV (lookP d.n (RepB d.n d.mu d.st d.s L)))) := by
  rintro w F hO
  rw [lk_known d.s L hk]
  obtain ⟨_, lv, g, _⟩ := (Stp.refl hO).has.right
  have hR := rb_cells g
  have c0 := hR.c0
  have c1 := hR.c1
  have c2 := hR.c2
  have fz := hR.fz
  have HB : Hid (∀ o, Below w.heap.size w (w.alloc o)) := fun o => (Below.refl _ _).alloc (Nat.le_refl _) _
  have hyl := heap_lt g
  clear hO g hR hd
  unfold knK at hk
  generalize d.n = n at *
  generalize d.st = st at *
  generalize d.mu = mu at *
  cases mu with
  | false =>
    clear hk
    go_enter Try.func36, Try.ntmps36
    go_wp2_with fail
    refine bodyPost_ret (v := _) (by simp [results, Try.results36, go_sem]; rfl) rfl ?_
    exact ⟨rfl, HB.out _⟩
  | true =>
    by_cases hn : n = 1
    · have hni : (n : Int) = 1 := by omega
      subst hn
      clear hk
      go_enter Try.func36, Try.ntmps36
      go_wp2_with fail
      refine bodyPost_ret (v := _) (by simp [results, Try.results36, go_sem]; rfl) rfl ?_
      exact ⟨rfl, HB.out _⟩
    · obtain rfl : st = 1 := by simp [hn] at hk; exact hk
      have hni : ((n : Int) == 1) = false := by simp; omega
      clear hk
      go_enter Try.func36, Try.ntmps36
      go_wp2_with fail
      refine bodyPost_ret (v := _) (by simp [results, Try.results36, go_sem]; rfl) rfl ?_
      exact ⟨rfl, HB.out _⟩
end Go.Proofs.Ytlmnljijpgpmiaa
namespace Go.Proofs.Ytlmnljijpgpmiaa
open Go.RowKit
set_option linter.unusedVariables false
theorem lk_int {w w1 : World} {y k : Nat} {d : BD} {sn : Bool} {lv : Value} {L : List Int} (h : LkKeep w w1 y d k sn lv L) {a : Option Addr} {c : Nat} (hlv : lv = .slice a L.length c) {A : Nat} {x : Int} (hx : L[A]? = some x) : ∃ g, a = some ⟨g, 0, none⟩ ∧ w1.cell? ⟨g, A, none⟩ = some (.int .i64 x) := by
  obtain ⟨g, c', h1, h2⟩ := int_at h.ho hx
  rw [hlv] at h1
  simp only [Value.slice.injEq] at h1
  exact ⟨g, h1.1, h2⟩
set_option maxHeartbeats 16000000 in
set_option maxRecDepth 100000 in
theorem rbLooks_loop (y : Nat) (d : BD) (hd : BDOk d) (k : Nat) (L : List Int) (sn : Bool) (hk : knK d.n d.mu d.st = false) (hL : ∀ x ∈ L, I64 x) (hlen : L.length ≤ 3000000000000) :
    Looks Try.prog 36 #[.pointer (some ⟨y, 0, none⟩)] (RBakH y d k L sn) (.returned (lookV (lookP d.n (RepB d.n d.mu d.st d.s L)))) := by
  rintro w F hO
  obtain ⟨_, lv, g, ho, hne, hF⟩ := (Stp.refl hO).has.right
  obtain ⟨a, gc, hlv⟩ := ownAt_form ho
  have hR := rb_cells g
  have c0 := hR.c0
  have c1 := hR.c1
  have c2 := hR.c2
  have fz := hR.fz
  obtain ⟨hst1, hst2⟩ := hd.st
  obtain ⟨hn1, hn2⟩ := hd.n
  have hyl := heap_lt g
  have HLI := Lib.hid hL
  have HLV := Lib.hid hlv
  have HLO := Lib.hid (LkO.start d.s L hk)
  have HK0 : Hid (LkKeep w (w.alloc (.cells #[.bool false, .bool false, .bool false, .bool false, .int .i64 0, .int .i64 0, .int .i64 0, .int .i64 0] 99)) y d k sn lv L) :=
    ⟨(Below.refl _ _).alloc (Nat.le_refl _) _, ((Below.refl w.heap.size w).alloc (Nat.le_refl _) _ |>.block y hyl).trans g, heapAlloc w _, own_calm ho ((Below.refl _ _).alloc (Nat.le_refl _) _)⟩
  have hmu : d.mu = true := by
    unfold knK at hk
    cases h : d.mu
    · rw [h] at hk; simp at hk
    · rfl
  have hn1b : ((d.n : Int) == 1) = false := by
    unfold knK at hk
    simp at hk ⊢; omega
  have hs1b : (d.st == 1) = false := by
    unfold knK at hk
    simp at hk ⊢; omega
  rw [hmu] at c1
  obtain ⟨ln, hln⟩ : ∃ ln, L.length = ln := ⟨_, rfl⟩
  have HLN := Lib.hid hln
  rw [hln] at hlen
  clear hO g ho hne hF hR hd hk hL hlv hmu hln
  go_enter Try.func36, Try.ntmps36
  go_wp2_with fail
  clear c0 c1 c2 fz hn1b hs1b
  go_loopw [3, 4] (fun av zv wr => ∃ (A : Nat) (z : Int), A ≤ ln ∧ z < d.st ∧ -20 ≤ z ∧ av = .int .i64 A ∧ zv = .int .i64 z ∧ Hid (LkO d.n d.mu d.st d.s L z A) ∧ Hid (LkKeep w wr y d k sn lv L)) (fun _ zv _ => (intOf zv).toNat)
  case atStart => exact ⟨0, d.st - 1, by omega, by omega, by omega, rfl, by go_num, HLO.out, HK0.out⟩
  case round =>
    obtain ⟨A, z, hAl, hzlt, hzlo, rfl, rfl, HO, HK⟩ := hrel
    have hR := rb_cells HK.out.hy
    have c0 := hR.c0
    have c2 := hR.c2
    have c13 := hR.c13
    rw [HLV.out, HLN.out] at c13
    have fz := hR.fz
    obtain ⟨b0, b1, b2, b3, b4, b5, b6, b7, bz⟩ := look_cells HK.out.hbx
    clear hR
    by_cases hz1 : 1 ≤ z
    · by_cases hz2 : d.st - d.n < z
      · have HNZ : Hid (¬ (z < 1 ∨ z ≤ d.st - d.n)) := by
          show ¬ _
          omega
        go_wp2_with fail
        go_quiet (fail)
        have HKq := Lib.hid (HK.out.calm (below_drewN (Below.refl _ wr) nq))
        clear c0 c2 c13 fz b0 b1 b2 b3 b4 b5 b6 b7 bz HK
        generalize wr.drewN nq = wq at *
        have hR := rb_cells HKq.out.hy
        have c0 := hR.c0
        have c2 := hR.c2
        have c13 := hR.c13
        rw [HLV.out, HLN.out] at c13
        have fz := hR.fz
        obtain ⟨b0, b1, b2, b3, b4, b5, b6, b7, bz⟩ := look_cells HKq.out.hbx
        clear hR
        go_wp2_with fail
        refine (refSlot_any _ _ _).mono ?_; rintro e w' ⟨rfl, rfl⟩
        by_cases hAe : A = ln
        · subst hAe
          have HE := Lib.hid (LkO.end HO.out HNZ.out HLN.out.symm)
          go_wp2_with fail
          refine bodyPost_ret (v := _) (by simp [results, Try.results36, go_sem, b0, b1, b2, b3, b4, b5, b6, b7]; rfl) rfl ?_
          rw [HE.out]
          exact ⟨rfl, set8_look HKq.out.hb (Nat.le_refl _) _ _ _ _ _ _ _ _⟩
        · have hx0 := List.getElem?_eq_getElem (show A < L.length by have := HLN.out; omega)
          have hvI := HLI.out _ (List.getElem_mem (show A < L.length by have := HLN.out; omega))
          generalize L[A]'(by have := HLN.out; omega) = v at *
          obtain ⟨gg, rfl, lA⟩ := lk_int HKq.out HLV.out hx0
          have HX := Lib.hid hx0
          have HVI := Lib.hid hvI
          have hAn : ((A : Int) == (ln : Int)) = false := by simp; omega
          clear hx0 hvI
          go_wp2_with fail
          refine (refOver_any _ _ HVI.out _).mono ?_; rintro e w' ⟨rfl, rfl⟩
          cases hov : overB v z with
          | true =>
            have HE := Lib.hid (LkO.over HO.out HNZ.out HX.out hov)
            clear hov
            go_wp2_with fail
            refine bodyPost_ret (v := _) (by simp [results, Try.results36, go_sem, b0, b1, b2, b3, b4, b5, b6, b7]; rfl) rfl ?_
            rw [HE.out]
            exact ⟨rfl, set8_look HKq.out.hb (Nat.le_refl _) _ _ _ _ _ _ _ _⟩
          | false =>
            have HI0 := Lib.hid (LkO.on HO.out HNZ.out HX.out hov)
            clear hov HO lA HX HVI
            go_wp2_with fail
            clear c0 c2 c13 fz b0 b1 b2 b3 b4 b5 b6 b7 bz
            go_loopw [3, 7] (fun av jv wr => ∃ (A2 j : Nat), A2 ≤ ln ∧ j ≤ 8 ∧ av = .int .i64 A2 ∧ jv = .int .i64 j ∧ Hid (LkI d.n d.mu d.st d.s L z A2 j) ∧ Hid (LkKeep w wr y d k sn lv L)) (fun _ jv _ => 8 - (intOf jv).toNat)
            case atStart => exact ⟨A + 1, 0, by omega, by omega, by go_num, rfl, HI0.out, HKq.out⟩
            case round =>
              obtain ⟨A2, j, hBl, hj8, rfl, rfl, HIn, HKn⟩ := hrel
              have hR := rb_cells HKn.out.hy
              have c0 := hR.c0
              have c2 := hR.c2
              have c13 := hR.c13
              rw [HLV.out, HLN.out] at c13
              have fz := hR.fz
              obtain ⟨b0, b1, b2, b3, b4, b5, b6, b7, bz⟩ := look_cells HKn.out.hbx
              by_cases hj : j < 8
              · have cj := hR.rd j hj
                have HJ := Lib.hid hj
                have hji : (j : Int) < 8 := by omega
                have hj0 : (0 : Int) ≤ j := by omega
                clear hR
                by_cases hz : d.s j = 0
                · have HIz := Lib.hid (LkI.zero HIn.out HJ.out hz)
                  rw [hz] at cj
                  clear hz
                  go_wp2_with fail
                  go_roundw
                  case rel => exact ⟨A2, j + 1, hBl, by omega, rfl, by go_num, HIz.out, HKn.out⟩
                  case measure => simp [intOf]; omega
                · have HZ := Lib.hid hz
                  have hzb : (d.s j == 0) = false := by simpa using hz
                  by_cases hBe : A2 = ln
                  · subst hBe
                    have HE := Lib.hid (LkI.end HIn.out HJ.out HZ.out HLN.out.symm)
                    clear hz
                    go_wp2_with fail
                    refine bodyPost_ret (v := _) (by simp [results, Try.results36, go_sem, b0, b1, b2, b3, b4, b5, b6, b7]; rfl) rfl ?_
                    rw [HE.out]
                    exact ⟨rfl, set8_look HKn.out.hb (Nat.le_refl _) _ _ _ _ _ _ _ _⟩
                  · have hx0 := List.getElem?_eq_getElem (show A2 < L.length by have := HLN.out; omega)
                    generalize L[A2]'(by have := HLN.out; omega) = u at *
                    obtain ⟨gg2, hgg, lA⟩ := lk_int HKn.out HLV.out hx0
                    obtain rfl : gg2 = gg := by simp at hgg; exact hgg.symm
                    have HX := Lib.hid hx0
                    have hAn : ((A2 : Int) == (ln : Int)) = false := by simp; omega
                    have hA2 : (A2 : Int) < ln := by omega
                    clear hx0 hgg hz
                    go_wp2_with fail
                    go_quiet (fail)
                    have HKq2 := Lib.hid (HKn.out.calm (below_drewN (Below.refl _ wr) nq))
                    clear c0 c2 c13 fz b0 b1 b2 b3 b4 b5 b6 b7 bz HKn cj lA
                    generalize wr.drewN nq = wq at *
                    have hR := rb_cells HKq2.out.hy
                    have c0 := hR.c0
                    have c2 := hR.c2
                    have c13 := hR.c13
                    rw [HLV.out, HLN.out] at c13
                    have fz := hR.fz
                    obtain ⟨b0, b1, b2, b3, b4, b5, b6, b7, bz⟩ := look_cells HKq2.out.hbx
                    clear hR
                    by_cases hbt : bits .and .u64 (d.s j) (IntKind.u64.wrap u) = 0
                    · have HIs := Lib.hid (LkI.miss HIn.out HJ.out HZ.out HX.out hbt)
                      have hb2 : (bits .and .u64 (d.s j) (IntKind.u64.wrap u) != 0) = false := by rw [hbt]; rfl
                      clear hbt
                      go_wp2_with fail
                      go_roundw
                      case rel => exact ⟨A2 + 1, j + 1, by omega, by omega, by go_num, by go_num, HIs.out, HKq2.out⟩
                      case measure => simp [intOf]; omega
                    · have hb2 : (bits .and .u64 (d.s j) (IntKind.u64.wrap u) != 0) = true := by simpa using hbt
                      by_cases hA3 : A2 + 1 = ln
                      · have HE := Lib.hid (LkI.meets HIn.out HJ.out HZ.out HX.out hbt (by rw [HLN.out]; exact hA3))
                        have hA3b : ((A2 : Int) + 1 == (ln : Int)) = true := by simp; omega
                        clear hbt
                        go_wp2_with fail
                        refine bodyPost_ret (v := _) (by simp [results, Try.results36, go_sem, b0, b1, b2, b3, b4, b5, b6, b7]; rfl) rfl ?_
                        rw [HE.out]
                        exact ⟨rfl, set8_look HKq2.out.hb (Nat.le_refl _) _ _ _ _ _ _ _ _⟩
                      · have HE := Lib.hid (LkI.past HIn.out HJ.out HZ.out HX.out hbt (by rw [HLN.out]; omega))
                        have hA3b : ((A2 : Int) + 1 == (ln : Int)) = false := by simp; omega
                        clear hbt
                        go_wp2_with fail
                        refine bodyPost_ret (v := _) (by simp [results, Try.results36, go_sem, b0, b1, b2, b3, b4, b5, b6, b7]; rfl) rfl ?_
                        rw [HE.out]
                        exact ⟨rfl, set8_look HKq2.out.hb (Nat.le_refl _) _ _ _ _ _ _ _ _⟩
              · obtain rfl : j = 8 := by omega
                have HOe := Lib.hid (LkI.close HIn.out)
                clear hR
                go_wp2_with fail
                go_roundw
                case rel => exact ⟨A2, z - 1, hBl, by omega, by omega, rfl, by go_num, HOe.out, HKn.out⟩
                case measure => simp [intOf]; omega
      · have HE := Lib.hid (LkO.out HO.out (.inr (by omega)))
        go_wp2_with fail
        go_quiet (fail)
        have HKq := Lib.hid (HK.out.calm (below_drewN (Below.refl _ wr) nq))
        clear c0 c2 c13 fz b0 b1 b2 b3 b4 b5 b6 b7 bz HK
        generalize wr.drewN nq = wq at *
        obtain ⟨b0, b1, b2, b3, b4, b5, b6, b7, bz⟩ := look_cells HKq.out.hbx
        go_wp2_with fail
        refine bodyPost_ret (v := _) (by simp [results, Try.results36, go_sem, b0, b1, b2, b3, b4, b5, b6, b7]; rfl) rfl ?_
        rw [HE.out]
        exact ⟨rfl, set8_look HKq.out.hb (Nat.le_refl _) _ _ _ _ _ _ _ _⟩
    · have HE := Lib.hid (LkO.out HO.out (.inl (by omega)))
      have hz1b : decide (1 ≤ z) = false := decide_eq_false hz1
      go_wp2_with fail
      go_quiet (fail)
      have HKq := Lib.hid (HK.out.calm (below_drewN (Below.refl _ wr) nq))
      clear c0 c2 c13 fz b0 b1 b2 b3 b4 b5 b6 b7 bz HK
      generalize wr.drewN nq = wq at *
      obtain ⟨b0, b1, b2, b3, b4, b5, b6, b7, bz⟩ := look_cells HKq.out.hbx
      go_wp2_with fail
      refine bodyPost_ret (v := _) (by simp [results, Try.results36, go_sem, b0, b1, b2, b3, b4, b5, b6, b7]; rfl) rfl ?_
      rw [HE.out]
      exact ⟨rfl, set8_look HKq.out.hb (Nat.le_refl _) _ _ _ _ _ _ _ _⟩
end Go.Proofs.Ytlmnljijpgpmiaa
