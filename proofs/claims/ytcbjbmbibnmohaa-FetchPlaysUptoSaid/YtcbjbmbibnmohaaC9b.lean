/- Layer 9: the reference: Takes, New, Step. -/
import Derived.Test.YtcbjbmbibnmohaaC9i
import Derived.Test.YtcbjbmbibnmohaaG0
import Derived.Test.YtcbjbmbibnmohaaC2h
import Derived.Test.YtcbjbmbibnmohaaW8b
namespace Go.Proofs.Ytcbjbmbibnmohaa
open Go.RowKit
set_option linter.unusedVariables false
/-- A cell of the struct is written. -/
theorem LstH.set {y : Nat} {f f' : Value → Array Value} {T E : TypeId} {L : List Int} {w : World} (i : Nat) (v : Value) (h : ∀ lv, (f lv).setIfInBounds i v = f' lv) : Moves (LstH y f T E L) (LstH y f' T E L) w (w.setCell ⟨y, i, none⟩ v) := by
  rintro F ⟨lv, h1, h2, h3, h4⟩
  refine ⟨F, ⟨lv, (heapSet_eq _ _ _ _ _ _ _ h1).trans (by rw [h]), own_chg h2 (Chg.setCell _ _ _) (fun b hb (e : b = y) => h3 (by rw [hb, e])), h3, h4⟩, (Chg.refl F w).set _ _ (.inr ((h4 y).2 (.inl rfl))), fun _ h => .inl h⟩
/-- The list is struck. -/
theorem LstH.nil {y : Nat} {f f' : Value → Array Value} {T E : TypeId} {L : List Int} {w : World} (i : Nat) (h : ∀ lv, (f lv).setIfInBounds i (.slice none 0 0) = f' (.slice none 0 0)) : Moves (LstH y f T E L) (LstH y f' T E []) w (w.setCell ⟨y, i, none⟩ (.slice none 0 0)) := by
  rintro F ⟨lv, h1, h2, h3, h4⟩
  exact ⟨fun b => b = y, ⟨.slice none 0 0, (heapSet_eq _ _ _ _ _ _ _ h1).trans (by rw [h]), World.ownsRow_nil _ _ _ _, by simp [Value.ownBlock], fun b => by simp [Value.ownBlock]⟩, (Chg.refl F w).set _ _ (.inr ((h4 y).2 (.inl rfl))), fun b hb => .inl ((h4 b).2 (.inl hb))⟩
theorem LstH.newAt {w : World} {y : Nat} (cs : Array Value) (f : Value → Array Value) (T E : TypeId) (hy : y = w.heap.size) (hf : f (.slice none 0 0) = cs) : AtW w (LstH y f T E []) (w.alloc (.cells cs T)) := by
  subst hy; exact LstH.new8 cs f T E hf
theorem rtwo_cells {w : World} {p : Nat} {a b c : Value} {T : TypeId} (h : w.heap[p]? = some (.cells #[a, b, c] T)) : w.cell? ⟨p, 0, none⟩ = some a ∧ w.cell? ⟨p, 1, none⟩ = some b :=
  ⟨by simp [World.cell?, h], by simp [World.cell?, h]⟩
/-- The reference's machine. -/
def f9 (c : Int) (rd : Bool) (val size fr : Int) (rs : Nat → Int) (lv : Value) : Array Value := #[.int .i64 c, .bool rd, .int .i64 val, .int .i64 size, .int .i64 fr, .int .u64 (rs 0), .int .u64 (rs 1), .int .u64 (rs 2), .int .u64 (rs 3), .int .u64 (rs 4), .int .u64 (rs 5), .int .u64 (rs 6), .int .u64 (rs 7), .bool true, lv]
theorem f9_off (c : Int) (rd : Bool) (val size fr : Int) (rs : Nat → Int) : Off3 (f9 c rd val size fr rs) size fr rs true where
  c0 := fun _ => rfl
  c1 := fun _ => rfl
  rd := by
    intro lv k hk
    match k, hk with
    | 0, _ => rfl
    | 1, _ => rfl
    | 2, _ => rfl
    | 3, _ => rfl
    | 4, _ => rfl
    | 5, _ => rfl
    | 6, _ => rfl
    | 7, _ => rfl
  c10 := fun _ => rfl
  c11 := fun _ => rfl
  set := fun _ _ => rfl
abbrev RFetH (y : Nat) (c : Int) (rd : Bool) (val size fr : Int) (rs : Nat → Int) (L : List Int) : HP := RChkH 111 (f9 c rd val size fr rs) y L
theorem rfet_cells {w : World} {y : Nat} {c : Int} {rd : Bool} {val size fr : Int} {rs : Nat → Int} {lv : Value} {T : TypeId} (h : w.heap[y]? = some (.cells (f9 c rd val size fr rs lv) T)) :
    w.cell? ⟨y, 0, none⟩ = some (.int .i64 c) ∧ w.cell? ⟨y, 1, none⟩ = some (.bool rd) ∧ w.cell? ⟨y, 2, none⟩ = some (.int .i64 val) ∧ w.cell? ⟨y, 3, none⟩ = some (.int .i64 size) ∧ ∀ o, w.frozen? ⟨y, o, none⟩ = false :=
  ⟨by simp [World.cell?, h, f9], by simp [World.cell?, h, f9], by simp [World.cell?, h, f9], by simp [World.cell?, h, f9], fun o => by simp [World.frozen?, h]⟩
abbrev RFStep (r y ring cells : Nat) (l : List Acc) (c : Int) (rd : Bool) (val size fr : Int) (rs : Nat → Int) (L : List Int) : HP := Star (RMemH r ring cells l) (RFetH y c rd val size fr rs L)
theorem RFStep.good (r y ring cells : Nat) (l : List Acc) (c : Int) (rd : Bool) (val size fr : Int) (rs : Nat → Int) (L : List Int) : Good (RFStep r y ring cells l c rd val size fr rs L) := (RMemH.good _ _ _ _).star (LstH.good _ _ _ _ _)
set_option maxHeartbeats 1000000 in
theorem rfetStep_none (r y ring cells : Nat) (l : List Acc) (c : Int) (rd : Bool) (val : Int) (size : Nat) (fr : Int) (rs : Nat → Int) (L : List Int) (th : Int) (hn : ring ≠ size ∨ (cells : Int) ≤ c) :
    Looks Try.prog 23 #[.pointer (some ⟨y, 0, none⟩), .pointer (some ⟨r, 0, none⟩), .int .i64 th] (RFStep r y ring cells l c rd val size fr rs L) (.returned (.tuple #[.int .i64 0, .int .i64 0, .int .i64 0])) := by
  rintro w F ⟨_, _, ⟨rv, g1, _⟩, ⟨lv, g2, _⟩, _⟩
  obtain ⟨q0, q1, q2, qz⟩ := three_cells g1
  obtain ⟨c0, c1, c2, c3, fz⟩ := rfet_cells g2
  clear g1 g2
  by_cases hr : ring = size
  · have hst : (cells : Int) ≤ c := hn.resolve_left (fun h => h hr)
    subst hr
    have e1 : ((ring : Int) != (ring : Int)) = false := by simp
    have e2 : decide ((cells : Int) ≤ c) = true := by simpa using hst
    clear hn hst
    go_enter Try.func23, Try.ntmps23
    go_wp2_with fail
    go_quiet (fail)
    go_wp2_with fail
    refine bodyPost_ret (v := _) (by simp [results, Try.results23, go_sem]; rfl) rfl ?_
    exact ⟨rfl, below_drewN (Below.refl _ _) _⟩
  · have e1 : ((ring : Int) != (size : Int)) = true := by simp; omega
    clear hn hr
    go_enter Try.func23, Try.ntmps23
    go_wp2_with fail
    go_quiet (fail)
    go_wp2_with fail
    refine bodyPost_ret (v := _) (by simp [results, Try.results23, go_sem]; rfl) rfl ?_
    exact ⟨rfl, below_drewN (Below.refl _ _) _⟩
set_option maxHeartbeats 1000000 in
theorem rfetStep_read (r y ring cells : Nat) (l : List Acc) (hlen : l.length ≤ 100000000000) (c : Int) (hc0 : 0 ≤ c) (hc1 : c < cells) (val fr : Int) (rs : Nat → Int) (L : List Int) (th : Int) :
    Lifts Try.prog 23 #[.pointer (some ⟨y, 0, none⟩), .pointer (some ⟨r, 0, none⟩), .int .i64 th] (RFStep r y ring cells l c false val ring fr rs L) (RFStep r y ring cells (l ++ [ldAcc th 4 c 0 (wordOf l 4 c 0)]) c true (wordOf l 4 c 0) ring fr rs L) (.returned (.tuple #[.int .i64 2, .int .i64 0, .int .i64 0])) := by
  rintro w F hO
  have GX := Lib.hid (RFStep.good r y ring cells l c false val ring fr rs L)
  have HO := Lib.hid hO
  have HL := Lib.hid (Lifts.left (B := RFetH y c false val ring fr rs L) (LstH.good _ _ _ _ _) (rload_in r ring cells l hlen th 4 c 0 (.inr (.inr (.inr ⟨rfl, ⟨hc0, hc1⟩, rfl⟩)))))
  obtain ⟨_, _, ⟨rv, g1, _⟩, ⟨lv, g2, _⟩, _⟩ := hO
  obtain ⟨q0, q1, q2, qz⟩ := three_cells g1
  obtain ⟨c0, c1, c2, c3, fz⟩ := rfet_cells g2
  have e1 : ((ring : Int) != (ring : Int)) = false := by simp
  have e2 : decide ((cells : Int) ≤ c) = false := by simp; omega
  clear g1 g2
  generalize hV : wordOf l 4 c 0 = v at *
  clear hV
  have GM2 := Lib.hid (RMemH.good r ring cells (l ++ [ldAcc th 4 c 0 v]))
  go_enter Try.func23, Try.ntmps23
  go_wp2_with fail
  go_quiet (fail)
  have H1 : Hid (Stp w (w.drewN nq) F _) := (Stp.refl HO.out).below GX.out (below_drewN (Below.refl _ _) nq)
  go_wp2_with fail
  refine (Stp.lift HL.out H1.out).mono ?_
  rintro e w2 ⟨rfl, h2⟩
  have H2 := Lib.hid h2
  clear c0 c1 c2 c3 fz q0 q1 q2 qz
  obtain ⟨lv2, g2⟩ : ∃ lv2, w2.heap[y]? = some (.cells (f9 c false val ring fr rs lv2) 111) := by
    obtain ⟨_, lv2, g2, _⟩ := h2.has.right
    exact ⟨lv2, g2⟩
  obtain ⟨c0, c1, c2, c3, fz⟩ := rfet_cells g2
  clear h2 H1 HL g2
  go_wp2_with fail
  refine bodyPost_ret (v := _) (by simp [results, Try.results23, go_sem]; rfl) rfl ?_
  exact ⟨rfl, (H2.out.move (Moves.right GM2.out (LstH.set (f' := f9 c true val ring fr rs) 1 (.bool true) (fun _ => rfl)))).move (Moves.right GM2.out (LstH.set (f' := f9 c true v ring fr rs) 2 (.int .i64 v) (fun _ => rfl)))⟩
set_option maxHeartbeats 1000000 in
theorem rfetStep_done (r y ring cells : Nat) (l : List Acc) (Ox : HP) (gO : Good Ox) (er : Int) (c : Int) (hc : c < cells) (val fr : Int) (rs : Nat → Int) (L : List Int) (th : Int) (hval : ∀ w, Has Ox w → w.cell? ⟨y, 2, none⟩ = some (.int .i64 val) ∧ ∀ o, w.frozen? ⟨y, o, none⟩ = false)
    (hL : Lifts Try.prog 44 #[.pointer (some ⟨y, 3, none⟩), .pointer (some ⟨r, 0, none⟩), .int .i64 th] (RFStep r y ring cells l c true val ring fr rs L) Ox (.returned (.tuple #[.int .i64 3, .int .i64 er]))) :
    Lifts Try.prog 23 #[.pointer (some ⟨y, 0, none⟩), .pointer (some ⟨r, 0, none⟩), .int .i64 th] (RFStep r y ring cells l c true val ring fr rs L) Ox (.returned (.tuple #[.int .i64 3, .int .i64 er, .int .i64 val])) := by
  rintro w F hO
  have GX := Lib.hid (RFStep.good r y ring cells l c true val ring fr rs L)
  have GO := Lib.hid gO
  have HL := Lib.hid hL
  have HV := Lib.hid hval
  have HO := Lib.hid hO
  obtain ⟨_, _, ⟨rv, g1, _⟩, ⟨lv, g2, _⟩, _⟩ := hO
  obtain ⟨q0, q1, q2, qz⟩ := three_cells g1
  obtain ⟨c0, c1, c2, c3, fz⟩ := rfet_cells g2
  have e1 : ((ring : Int) != (ring : Int)) = false := by simp
  have e2 : decide ((cells : Int) ≤ c) = false := by simp; omega
  clear g1 g2 hL gO hval
  go_enter Try.func23, Try.ntmps23
  go_wp2_with fail
  go_quiet (fail)
  have H1 : Hid (Stp w (w.drewN nq) F _) := (Stp.refl HO.out).below GX.out (below_drewN (Below.refl _ _) nq)
  go_wp2_with fail
  refine (Stp.lift HL.out H1.out).mono ?_
  rintro e w2 ⟨rfl, h2⟩
  have H2 := Lib.hid h2
  clear c0 c1 c2 c3 fz q0 q1 q2 qz
  obtain ⟨c2, fz⟩ := HV.out _ h2.has
  clear h2 H1 HL
  go_wp2_with fail
  go_quiet (fail)
  go_wp2_with fail
  refine bodyPost_ret (v := _) (by simp [results, Try.results23, go_sem]; rfl) rfl ?_
  exact ⟨rfl, H2.out.below GO.out (below_drewN (Below.refl _ _) nq)⟩
set_option maxHeartbeats 1000000 in
theorem rfetStep_on (r y ring cells : Nat) (l : List Acc) (Ox : HP) (gO : Good Ox) (k er : Int) (hk : k ≠ 3) (c : Int) (hc : c < cells) (val fr : Int) (rs : Nat → Int) (L : List Int) (th : Int)
    (hL : Lifts Try.prog 44 #[.pointer (some ⟨y, 3, none⟩), .pointer (some ⟨r, 0, none⟩), .int .i64 th] (RFStep r y ring cells l c true val ring fr rs L) Ox (.returned (.tuple #[.int .i64 k, .int .i64 er]))) :
    Lifts Try.prog 23 #[.pointer (some ⟨y, 0, none⟩), .pointer (some ⟨r, 0, none⟩), .int .i64 th] (RFStep r y ring cells l c true val ring fr rs L) Ox (.returned (.tuple #[.int .i64 k, .int .i64 er, .int .i64 0])) := by
  rintro w F hO
  have GX := Lib.hid (RFStep.good r y ring cells l c true val ring fr rs L)
  have GO := Lib.hid gO
  have HL := Lib.hid hL
  have HO := Lib.hid hO
  obtain ⟨_, _, ⟨rv, g1, _⟩, ⟨lv, g2, _⟩, _⟩ := hO
  obtain ⟨q0, q1, q2, qz⟩ := three_cells g1
  obtain ⟨c0, c1, c2, c3, fz⟩ := rfet_cells g2
  have e1 : ((ring : Int) != (ring : Int)) = false := by simp
  have e2 : decide ((cells : Int) ≤ c) = false := by simp; omega
  have e3 : (k == 3) = false := by simp [hk]
  clear g1 g2 hL gO hk
  go_enter Try.func23, Try.ntmps23
  go_wp2_with fail
  go_quiet (fail)
  have H1 : Hid (Stp w (w.drewN nq) F _) := (Stp.refl HO.out).below GX.out (below_drewN (Below.refl _ _) nq)
  go_wp2_with fail
  refine (Stp.lift HL.out H1.out).mono ?_
  rintro e w2 ⟨rfl, h2⟩
  have H2 := Lib.hid h2
  clear c0 c1 c2 c3 fz q0 q1 q2 qz h2 H1 HL
  go_wp2_with fail
  refine bodyPost_ret (v := _) (by simp [results, Try.results23, go_sem]; rfl) rfl ?_
  exact ⟨rfl, H2.out⟩
/-- The reference's New has answered. -/
def RFetNew (w : World) (n fr : Int) (rs : Nat → Int) (c : Int) (e : Ending) (w' : World) : Prop := ∃ y, e = .returned (.pointer (some ⟨y, 0, none⟩)) ∧ AtW w (RFetH y c false 0 n fr (withS rs c) []) w'
theorem rfetNew_any (n fr : Int) (rs : Nat → Int) (hrs : Wds rs) (c : Int) (w : World) : Calls Try.prog 20 #[.int .i64 n, .int .i64 fr, (.agg #[.int .u64 (rs 0), .int .u64 (rs 1), .int .u64 (rs 2), .int .u64 (rs 3), .int .u64 (rs 4), .int .u64 (rs 5), .int .u64 (rs 6), .int .u64 (rs 7)]), .int .i64 c] w (RFetNew w n fr rs c) := by
  have HW := Lib.hid (refWith_any rs hrs c)
  have HE : Hid (∀ e w', RFetNew w n fr rs c e w' = ∃ y, e = .returned (.pointer (some ⟨y, 0, none⟩)) ∧ AtW w (RFetH y c false 0 n fr (withS rs c) []) w') := fun _ _ => rfl
  generalize withS rs c = all at *
  clear hrs
  go_enter Try.func20, Try.ntmps20
  go_wp2_with fail
  refine (HW.out _).mono ?_; rintro e w1 ⟨rfl, hb⟩
  have B1 : Hid (Below w.heap.size w w1) := ((Below.refl _ _).alloc (Nat.le_refl _) _).trans (hb.mono (by simp))
  have B2 : Hid (Below w.heap.size w (w1.alloc (.cells #[.int .u64 (all 0), .int .u64 (all 1), .int .u64 (all 2), .int .u64 (all 3), .int .u64 (all 4), .int .u64 (all 5), .int .u64 (all 6), .int .u64 (all 7)] 45))) := B1.out.alloc B1.out.size _
  clear hb HW
  go_wp2_with fail
  go_ret
  rw [HE.out]
  exact ⟨_, rfl, (LstH.newAt (w := w1.alloc (.cells #[.int .u64 (all 0), .int .u64 (all 1), .int .u64 (all 2), .int .u64 (all 3), .int .u64 (all 4), .int .u64 (all 5), .int .u64 (all 6), .int .u64 (all 7)] 45)) (f9 c false 0 n fr all (.slice none 0 0)) (f9 c false 0 n fr all) _ 2 (by simp) rfl).up B2.out⟩
theorem ftakes_any (s f c : Int) (w : World) : Calls Try.prog 17 #[.int .i64 s, .int .i64 f, .int .i64 c] w fun e w' => e = .returned (.bool (decide (((1 ≤ s ∧ s ≤ 16) ∧ 0 ≤ f) ∧ 0 ≤ c ∧ c < 1024))) ∧ w = w' := by
  have HT := Lib.hid (ktakes_any s f w)
  by_cases h0 : (1 ≤ s ∧ s ≤ 16) ∧ 0 ≤ f
  · rw [decide_eq_true h0] at HT
    by_cases h1 : 0 ≤ c
    · by_cases h2 : c < 1024
      · rw [decide_eq_true (And.intro h0 (And.intro h1 h2))]
        clear h0
        go_enter Try.func17, Try.ntmps17
        go_wp2_with fail
        refine HT.out.mono ?_; rintro e w' ⟨rfl, rfl⟩
        go_wp2_with fail
        go_ret
        exact ⟨rfl, rfl⟩
      · rw [decide_eq_false (fun h => h2 h.2.2)]
        clear h0
        go_enter Try.func17, Try.ntmps17
        go_wp2_with fail
        refine HT.out.mono ?_; rintro e w' ⟨rfl, rfl⟩
        go_wp2_with fail
        go_ret
        exact ⟨ret_bool (by simp [h2]), rfl⟩
    · rw [decide_eq_false (fun h => h1 h.2.1)]
      clear h0
      go_enter Try.func17, Try.ntmps17
      go_wp2_with fail
      refine HT.out.mono ?_; rintro e w' ⟨rfl, rfl⟩
      go_wp2_with fail
      go_ret
      exact ⟨rfl, rfl⟩
  · rw [decide_eq_false h0] at HT
    rw [decide_eq_false (fun h => h0 h.1)]
    clear h0
    go_enter Try.func17, Try.ntmps17
    go_wp2_with fail
    refine HT.out.mono ?_; rintro e w' ⟨rfl, rfl⟩
    go_wp2_with fail
    go_ret
    exact ⟨rfl, rfl⟩
end Go.Proofs.Ytcbjbmbibnmohaa
