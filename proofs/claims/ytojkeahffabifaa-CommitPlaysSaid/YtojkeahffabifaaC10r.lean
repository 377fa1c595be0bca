/- Layer 10: the reference's machine. -/
import Derived.Test.YtojkeahffabifaaC9d
import Derived.Test.YtojkeahffabifaaC3k
import Derived.Test.YtojkeahffabifaaS10
namespace Go.Proofs.Ytojkeahffabifaa
open Go.RowKit
set_option linter.unusedVariables false
/-- The reference's machine. -/
def f10 (n last : Int) (mu : Bool) (fr : Int) (rs : Nat → Int) (rdy lkd : Bool) (stp : Int) (ovr : Bool) (sn : Int) (lv : Value) : Array Value := #[.int .i64 n, .int .i64 last, .bool mu, .int .i64 n, .int .i64 fr, .int .u64 (rs 0), .int .u64 (rs 1), .int .u64 (rs 2), .int .u64 (rs 3), .int .u64 (rs 4), .int .u64 (rs 5), .int .u64 (rs 6), .int .u64 (rs 7), .bool false, lv, .bool rdy, .bool lkd, .int .i64 stp, .bool ovr, .int .i64 sn]
theorem f10_off (n last : Int) (mu : Bool) (fr : Int) (rs : Nat → Int) (rdy lkd : Bool) (stp : Int) (ovr : Bool) (sn : Int) : Off3 (f10 n last mu fr rs rdy lkd stp ovr sn) n fr rs false where
  c0 := fun _ => rfl
  c1 := fun _ => rfl
  rd := by
    intro lv k hk
    match k, hk with
    | 0, _ => rfl
    | 1, _ => rfl
    | 2, _ => rfl
    | 3, _ => rfl
    | 4, _ => rfl
    | 5, _ => rfl
    | 6, _ => rfl
    | 7, _ => rfl
  c10 := fun _ => rfl
  c11 := fun _ => rfl
  set := fun _ _ => rfl
abbrev RComH (y : Nat) (n last : Int) (mu : Bool) (fr : Int) (rs : Nat → Int) (rdy lkd : Bool) (stp : Int) (ovr : Bool) (sn : Int) (L : List Int) : HP := RChkH 115 (f10 n last mu fr rs rdy lkd stp ovr sn) y L
theorem rcom_cells {w : World} {y : Nat} {n last : Int} {mu : Bool} {fr : Int} {rs : Nat → Int} {rdy lkd : Bool} {stp : Int} {ovr : Bool} {sn : Int} {lv : Value} {T : TypeId} (h : w.heap[y]? = some (.cells (f10 n last mu fr rs rdy lkd stp ovr sn lv) T)) :
    w.cell? ⟨y, 0, none⟩ = some (.int .i64 n) ∧ w.cell? ⟨y, 1, none⟩ = some (.int .i64 last) ∧ w.cell? ⟨y, 2, none⟩ = some (.bool mu) ∧ w.cell? ⟨y, 15, none⟩ = some (.bool rdy) ∧ w.cell? ⟨y, 16, none⟩ = some (.bool lkd) ∧ w.cell? ⟨y, 17, none⟩ = some (.int .i64 stp) ∧ w.cell? ⟨y, 18, none⟩ = some (.bool ovr) ∧ w.cell? ⟨y, 19, none⟩ = some (.int .i64 sn) ∧ ∀ o, w.frozen? ⟨y, o, none⟩ = false :=
  ⟨by simp [World.cell?, h, f10], by simp [World.cell?, h, f10], by simp [World.cell?, h, f10], by simp [World.cell?, h, f10], by simp [World.cell?, h, f10], by simp [World.cell?, h, f10], by simp [World.cell?, h, f10], by simp [World.cell?, h, f10], fun o => by simp [World.frozen?, h]⟩
abbrev RKStep (r y ring cells : Nat) (l : List Acc) (n last : Int) (mu : Bool) (fr : Int) (rs : Nat → Int) (rdy lkd : Bool) (stp : Int) (ovr : Bool) (sn : Int) (L : List Int) : HP := Star (RMemH r ring cells l) (RComH y n last mu fr rs rdy lkd stp ovr sn L)
theorem RKStep.good (r y ring cells : Nat) (l : List Acc) (n last : Int) (mu : Bool) (fr : Int) (rs : Nat → Int) (rdy lkd : Bool) (stp : Int) (ovr : Bool) (sn : Int) (L : List Int) : Good (RKStep r y ring cells l n last mu fr rs rdy lkd stp ovr sn L) := (RMemH.good _ _ _ _).star (LstH.good _ _ _ _ _)
set_option maxHeartbeats 1000000 in
theorem rround_on (r y n cells : Nat) (l : List Acc) (last : Int) (mu : Bool) (fr : Int) (rs : Nat → Int) (stp : Int) (sn : Int) (L : List Int) (lkd : Bool) (l' : List Acc) (L' : List Int) (th : Int) (kd er : Int) (hk3 : kd ≠ 3) (hk4 : kd ≠ 4)
    (hL : Lifts Try.prog 56 #[.pointer (some ⟨y, 3, none⟩), .pointer (some ⟨r, 0, none⟩), .int .i64 th] (RKStep r y n cells l n last mu fr rs false lkd stp false sn L) (RKStep r y n cells l' n last mu fr rs false lkd stp false sn L') (.returned (.tuple #[.int .i64 kd, .int .i64 er]))) :
    Lifts Try.prog 44 #[.pointer (some ⟨y, 0, none⟩), .pointer (some ⟨r, 0, none⟩), .int .i64 th] (RKStep r y n cells l n last mu fr rs false lkd stp false sn L) (RKStep r y n cells l' n last mu fr rs false lkd stp false sn L') (.returned (.tuple #[.int .i64 kd, .int .i64 er, .int .i64 0])) := by
  rintro w F hO
  have HL := Lib.hid hL
  have HO := Lib.hid hO
  clear hL hO
  have e3 : (kd != 3) = true := by simp [hk3]
  have e4 : (kd == 4) = false := by simp [hk4]
  clear hk3 hk4
  go_enter Try.func44, Try.ntmps44
  go_wp2_with fail
  refine (HL.out w F HO.out).mono ?_; rintro e w2 ⟨rfl, h2⟩
  have H2 := Lib.hid h2
  clear h2 HL
  go_wp2_with fail
  refine bodyPost_ret (v := _) (by simp [results, Try.results44, go_sem]; rfl) rfl ?_
  exact ⟨rfl, H2.out⟩
set_option maxHeartbeats 1000000 in
theorem rround_fail (r y n cells : Nat) (l : List Acc) (last : Int) (mu : Bool) (fr : Int) (rs : Nat → Int) (stp : Int) (sn : Int) (L : List Int) (lkd : Bool) (l' : List Acc) (L' : List Int) (th : Int) (er : Int)
    (hL : Lifts Try.prog 56 #[.pointer (some ⟨y, 3, none⟩), .pointer (some ⟨r, 0, none⟩), .int .i64 th] (RKStep r y n cells l n last mu fr rs false lkd stp false sn L) (RKStep r y n cells l' n last mu fr rs false lkd stp false sn L') (.returned (.tuple #[.int .i64 4, .int .i64 er]))) :
    Lifts Try.prog 44 #[.pointer (some ⟨y, 0, none⟩), .pointer (some ⟨r, 0, none⟩), .int .i64 th] (RKStep r y n cells l n last mu fr rs false lkd stp false sn L) (RKStep r y n cells l' n last mu fr rs false lkd stp true sn L') (.returned (.tuple #[.int .i64 4, .int .i64 er, .int .i64 0])) := by
  rintro w F hO
  have HL := Lib.hid hL
  have HO := Lib.hid hO
  clear hL hO
  go_enter Try.func44, Try.ntmps44
  go_wp2_with fail
  refine (HL.out w F HO.out).mono ?_; rintro e w2 ⟨rfl, h2⟩
  have H2 := Lib.hid h2
  clear h2 HL
  obtain ⟨lv2, g2⟩ : ∃ lv2, w2.heap[y]? = some (.cells (f10 n last mu fr rs false lkd stp false sn lv2) 115) := by
    obtain ⟨_, lv2, g2, _⟩ := H2.out.has.right
    exact ⟨lv2, g2⟩
  obtain ⟨c0, c1, c2, c15, c16, c17, c18, c19, fz⟩ := rcom_cells g2
  clear g2
  go_wp2_with fail
  refine bodyPost_ret (v := _) (by simp [results, Try.results44, go_sem]; rfl) rfl ?_
  exact ⟨rfl, H2.out.move (Moves.right (RMemH.good _ _ _ _) (LstH.set (f' := f10 n last mu fr rs false lkd stp true sn) 18 (.bool true) (fun _ => rfl)))⟩
set_option maxHeartbeats 1000000 in
theorem rround_spent (r y n cells : Nat) (l : List Acc) (last : Int) (mu : Bool) (fr : Int) (rs : Nat → Int) (stp : Int) (sn : Int) (L : List Int) (lkd : Bool) (l' : List Acc) (L' : List Int) (th : Int)  (sa sb : Int) (hS : Looks Try.prog 57 #[.pointer (some ⟨y, 3, none⟩)] (RComH y n last mu fr rs false lkd stp false sn L') (.returned (.tuple #[.int .i64 sa, .int .i64 sb, .bool true]))) (hsp : sb < 0 ∨ last ≤ sb)
    (hL : Lifts Try.prog 56 #[.pointer (some ⟨y, 3, none⟩), .pointer (some ⟨r, 0, none⟩), .int .i64 th] (RKStep r y n cells l n last mu fr rs false lkd stp false sn L) (RKStep r y n cells l' n last mu fr rs false lkd stp false sn L') (.returned (.tuple #[.int .i64 3, .int .i64 0]))) :
    Lifts Try.prog 44 #[.pointer (some ⟨y, 0, none⟩), .pointer (some ⟨r, 0, none⟩), .int .i64 th] (RKStep r y n cells l n last mu fr rs false lkd stp false sn L) (RKStep r y n cells l' n last mu fr rs false lkd stp true sb L') (.returned (.tuple #[.int .i64 4, .int .i64 6, .int .i64 0])) := by
  rintro w F hO
  have HL := Lib.hid hL
  have HO := Lib.hid hO
  clear hL hO
  go_enter Try.func44, Try.ntmps44
  go_wp2_with fail
  refine (HL.out w F HO.out).mono ?_; rintro e w2 ⟨rfl, h2⟩
  have H2 := Lib.hid h2
  clear h2 HL
  have HST := Lib.hid (Stp.look (RKStep.good _ _ _ _ _ _ _ _ _ _ _ _ _ _ _ _) (Looks.right (A := RMemH r n cells l') hS) H2.out)
  clear H2 hS
  go_wp2_with fail
  refine HST.out.mono ?_; rintro e w3 ⟨rfl, h3⟩
  have H3 := Lib.hid h3
  clear h3 HST
  obtain ⟨lv2, g2⟩ : ∃ lv2, w3.heap[y]? = some (.cells (f10 n last mu fr rs false lkd stp false sn lv2) 115) := by
    obtain ⟨_, lv2, g2, _⟩ := H3.out.has.right
    exact ⟨lv2, g2⟩
  obtain ⟨c0, c1, c2, c15, c16, c17, c18, c19, fz⟩ := rcom_cells g2
  clear g2
  rcases hsp with hsp | hsp
  · have d1 : decide (sb < 0) = true := by simpa using hsp
    clear hsp
    go_wp2_with fail
    refine bodyPost_ret (v := _) (by simp [results, Try.results44, go_sem]; rfl) rfl ?_
    exact ⟨rfl, (H3.out.move (Moves.right (RMemH.good _ _ _ _) (LstH.set (f' := f10 n last mu fr rs false lkd stp false sb) 19 (.int .i64 sb) (fun _ => rfl)))).move (Moves.right (RMemH.good _ _ _ _) (LstH.set (f' := f10 n last mu fr rs false lkd stp true sb) 18 (.bool true) (fun _ => rfl)))⟩
  · by_cases hb : sb < 0
    · have d1 : decide (sb < 0) = true := by simpa using hb
      clear hsp hb
      go_wp2_with fail
      refine bodyPost_ret (v := _) (by simp [results, Try.results44, go_sem]; rfl) rfl ?_
      exact ⟨rfl, (H3.out.move (Moves.right (RMemH.good _ _ _ _) (LstH.set (f' := f10 n last mu fr rs false lkd stp false sb) 19 (.int .i64 sb) (fun _ => rfl)))).move (Moves.right (RMemH.good _ _ _ _) (LstH.set (f' := f10 n last mu fr rs false lkd stp true sb) 18 (.bool true) (fun _ => rfl)))⟩
    · have d1 : decide (sb < 0) = false := by simpa using hb
      have d2 : decide (last ≤ sb) = true := by simpa using hsp
      clear hsp hb
      go_wp2_with fail
      refine bodyPost_ret (v := _) (by simp [results, Try.results44, go_sem]; rfl) rfl ?_
      exact ⟨rfl, (H3.out.move (Moves.right (RMemH.good _ _ _ _) (LstH.set (f' := f10 n last mu fr rs false lkd stp false sb) 19 (.int .i64 sb) (fun _ => rfl)))).move (Moves.right (RMemH.good _ _ _ _) (LstH.set (f' := f10 n last mu fr rs false lkd stp true sb) 18 (.bool true) (fun _ => rfl)))⟩
set_option maxHeartbeats 1000000 in
theorem rround_go (r y n cells : Nat) (l : List Acc) (last : Int) (mu : Bool) (fr : Int) (rs : Nat → Int) (stp : Int) (sn : Int) (L : List Int) (lkd : Bool) (l' : List Acc) (L' : List Int) (th : Int)  (sa sb : Int) (hS : Looks Try.prog 57 #[.pointer (some ⟨y, 3, none⟩)] (RComH y n last mu fr rs false lkd stp false sn L') (.returned (.tuple #[.int .i64 sa, .int .i64 sb, .bool true]))) (hsp : ¬ (sb < 0 ∨ last ≤ sb)) (lk : Bool) (hlk : lk = (!mu && decide (sb < 1)))
    (hL : Lifts Try.prog 56 #[.pointer (some ⟨y, 3, none⟩), .pointer (some ⟨r, 0, none⟩), .int .i64 th] (RKStep r y n cells l n last mu fr rs false lkd stp false sn L) (RKStep r y n cells l' n last mu fr rs false lkd stp false sn L') (.returned (.tuple #[.int .i64 3, .int .i64 0]))) :
    Lifts Try.prog 44 #[.pointer (some ⟨y, 0, none⟩), .pointer (some ⟨r, 0, none⟩), .int .i64 th] (RKStep r y n cells l n last mu fr rs false lkd stp false sn L) (RKStep r y n cells l' n last mu fr rs true lk stp false sb L') (.returned (.tuple #[.int .i64 2, .int .i64 0, .int .i64 0])) := by
  rintro w F hO
  have HL := Lib.hid hL
  have HO := Lib.hid hO
  clear hL hO
  go_enter Try.func44, Try.ntmps44
  go_wp2_with fail
  refine (HL.out w F HO.out).mono ?_; rintro e w2 ⟨rfl, h2⟩
  have H2 := Lib.hid h2
  clear h2 HL
  have HST := Lib.hid (Stp.look (RKStep.good _ _ _ _ _ _ _ _ _ _ _ _ _ _ _ _) (Looks.right (A := RMemH r n cells l') hS) H2.out)
  clear H2 hS
  go_wp2_with fail
  refine HST.out.mono ?_; rintro e w3 ⟨rfl, h3⟩
  have H3 := Lib.hid h3
  clear h3 HST
  obtain ⟨lv2, g2⟩ : ∃ lv2, w3.heap[y]? = some (.cells (f10 n last mu fr rs false lkd stp false sn lv2) 115) := by
    obtain ⟨_, lv2, g2, _⟩ := H3.out.has.right
    exact ⟨lv2, g2⟩
  obtain ⟨c0, c1, c2, c15, c16, c17, c18, c19, fz⟩ := rcom_cells g2
  clear g2
  have d1 : decide (sb < 0) = false := by simp; omega
  have d2 : decide (last ≤ sb) = false := by simp; omega
  clear hsp
  cases mu
  · by_cases hb : sb < 1
    · have d3 : decide (sb < 1) = true := by simpa using hb
      obtain rfl : lk = true := by rw [hlk]; simp [d3]
      clear hlk hb
      go_wp2_with fail
      refine bodyPost_ret (v := _) (by simp [results, Try.results44, go_sem]; rfl) rfl ?_
      exact ⟨rfl, ((H3.out.move (Moves.right (RMemH.good _ _ _ _) (LstH.set (f' := f10 n last false fr rs false lkd stp false sb) 19 (.int .i64 sb) (fun _ => rfl)))).move (Moves.right (RMemH.good _ _ _ _) (LstH.set (f' := f10 n last false fr rs true lkd stp false sb) 15 (.bool true) (fun _ => rfl)))).move (Moves.right (RMemH.good _ _ _ _) (LstH.set (f' := f10 n last false fr rs true true stp false sb) 16 (.bool true) (fun _ => rfl)))⟩
    · have d3 : decide (sb < 1) = false := by simpa using hb
      obtain rfl : lk = false := by rw [hlk]; simp [d3]
      clear hlk hb
      go_wp2_with fail
      refine bodyPost_ret (v := _) (by simp [results, Try.results44, go_sem]; rfl) rfl ?_
      exact ⟨rfl, ((H3.out.move (Moves.right (RMemH.good _ _ _ _) (LstH.set (f' := f10 n last false fr rs false lkd stp false sb) 19 (.int .i64 sb) (fun _ => rfl)))).move (Moves.right (RMemH.good _ _ _ _) (LstH.set (f' := f10 n last false fr rs true lkd stp false sb) 15 (.bool true) (fun _ => rfl)))).move (Moves.right (RMemH.good _ _ _ _) (LstH.set (f' := f10 n last false fr rs true false stp false sb) 16 (.bool false) (fun _ => rfl)))⟩
  · obtain rfl : lk = false := by rw [hlk]; rfl
    clear hlk
    go_wp2_with fail
    refine bodyPost_ret (v := _) (by simp [results, Try.results44, go_sem]; rfl) rfl ?_
    exact ⟨rfl, ((H3.out.move (Moves.right (RMemH.good _ _ _ _) (LstH.set (f' := f10 n last true fr rs false lkd stp false sb) 19 (.int .i64 sb) (fun _ => rfl)))).move (Moves.right (RMemH.good _ _ _ _) (LstH.set (f' := f10 n last true fr rs true lkd stp false sb) 15 (.bool true) (fun _ => rfl)))).move (Moves.right (RMemH.good _ _ _ _) (LstH.set (f' := f10 n last true fr rs true false stp false sb) 16 (.bool false) (fun _ => rfl)))⟩
set_option maxHeartbeats 1000000 in
theorem rlook_any (r y n cells : Nat) (l : List Acc) (last : Int) (mu : Bool) (fr : Int) (rs : Nat → Int) (stp : Int) (sn : Int) (L : List Int) (rdy lkd : Bool) (th : Int) (hok : OkW l) (hlen : l.length ≤ 3000000000000) (hn1 : 1 ≤ n) (hn2 : n ≤ 16) (hs0 : 0 ≤ sn) (hs1 : sn ≤ 1099511627776) :
    Lifts Try.prog 45 #[.pointer (some ⟨y, 0, none⟩), .pointer (some ⟨r, 0, none⟩), .int .i64 th] (RKStep r y n cells l n last mu fr rs rdy lkd stp false sn L) (RKStep r y n cells (l ++ [ldAcc th 2 (slotZ (lookZ mu sn) n) 0 (wordOf l 2 (slotZ (lookZ mu sn) n) 0)]) n last mu fr rs rdy lkd stp false sn L) (.returned (.bool (lookB n mu sn (wordOf l 2 (slotZ (lookZ mu sn) n) 0)))) := by
  rintro w F hO
  have HO := Lib.hid hO
  obtain ⟨_, _, ⟨rv, g1, _⟩, ⟨lv, g2, _⟩, _⟩ := hO
  obtain ⟨c0, c1, c2, c15, c16, c17, c18, c19, fz⟩ := rcom_cells g2
  clear g1 g2
  cases mu
  · have hsl := slotZ_lt sn n (by omega) (by omega)
    have HL := Lib.hid (Lifts.left (B := RComH y n last false fr rs rdy lkd stp false sn L) (LstH.good _ _ _ _ _) (rload_in r n cells l hlen th 2 (slotZ sn n) 0 (.inr (.inl ⟨rfl, hsl, rfl⟩))))
    unfold lookB lookZ
    simp only [Bool.false_eq_true, if_false]
    have hvI := hok 2 (slotZ sn n) 0
    generalize wordOf l 2 (slotZ sn n) 0 = v at *
    have HSL := Lib.hid (fun w => refSlot_any sn n w)
    have HOV := Lib.hid (fun w => refOver_any v sn hvI w)
    clear hsl
    go_enter Try.func45, Try.ntmps45
    go_wp2_with fail
    refine (HSL.out w).mono ?_; rintro e w' ⟨rfl, rfl⟩
    go_wp2_with fail
    refine (HL.out w F HO.out).mono ?_; rintro e w2 ⟨rfl, h2⟩
    have H2 := Lib.hid h2
    clear h2 HL c0 c1 c2 c15 c16 c17 c18 c19 fz
    obtain ⟨lv2, g2⟩ : ∃ lv2, w2.heap[y]? = some (.cells (f10 n last false fr rs rdy lkd stp false sn lv2) 115) := by
      obtain ⟨_, lv2, g2, _⟩ := H2.out.has.right
      exact ⟨lv2, g2⟩
    obtain ⟨c0, c1, c2, c15, c16, c17, c18, c19, fz⟩ := rcom_cells g2
    clear g2
    go_wp2_with fail
    refine (HOV.out w2).mono ?_; rintro e w' ⟨rfl, rfl⟩
    go_wp2_with fail
    go_ret
    exact ⟨rfl, H2.out⟩
  · have hsl := slotZ_lt (sn + 1) n (by omega) (by omega)
    have HL := Lib.hid (Lifts.left (B := RComH y n last true fr rs rdy lkd stp false sn L) (LstH.good _ _ _ _ _) (rload_in r n cells l hlen th 2 (slotZ (sn + 1) n) 0 (.inr (.inl ⟨rfl, hsl, rfl⟩))))
    unfold lookB lookZ
    simp only [if_true]
    have hvI := hok 2 (slotZ (sn + 1) n) 0
    generalize wordOf l 2 (slotZ (sn + 1) n) 0 = v at *
    have HSL := Lib.hid (fun w => refSlot_any (sn + 1) n w)
    have HFR := Lib.hid (fun w => refFree_any v (sn + 1) n hvI ⟨by omega, by omega⟩ w)
    clear hsl
    go_enter Try.func45, Try.ntmps45
    go_wp2_with fail
    refine (HSL.out w).mono ?_; rintro e w' ⟨rfl, rfl⟩
    go_wp2_with fail
    refine (HL.out w F HO.out).mono ?_; rintro e w2 ⟨rfl, h2⟩
    have H2 := Lib.hid h2
    clear h2 HL c0 c1 c2 c15 c16 c17 c18 c19 fz
    obtain ⟨lv2, g2⟩ : ∃ lv2, w2.heap[y]? = some (.cells (f10 n last true fr rs rdy lkd stp false sn lv2) 115) := by
      obtain ⟨_, lv2, g2, _⟩ := H2.out.has.right
      exact ⟨lv2, g2⟩
    obtain ⟨c0, c1, c2, c15, c16, c17, c18, c19, fz⟩ := rcom_cells g2
    clear g2
    go_wp2_with fail
    refine (HFR.out w2).mono ?_; rintro e w' ⟨rfl, rfl⟩
    go_wp2_with fail
    go_ret
    exact ⟨rfl, H2.out⟩
theorem rcomStep_none (r y n cells : Nat) (l : List Acc) (last : Int) (mu : Bool) (fr : Int) (rs : Nat → Int) (stp : Int) (sn : Int) (L : List Int) (ring : Nat) (rdy lkd ovr : Bool) (th : Int) (hn : ovr = true ∨ ring ≠ n) :
    Looks Try.prog 22 #[.pointer (some ⟨y, 0, none⟩), .pointer (some ⟨r, 0, none⟩), .int .i64 th] (RKStep r y ring cells l n last mu fr rs rdy lkd stp ovr sn L) (.returned (.tuple #[.int .i64 0, .int .i64 0, .int .i64 0])) := by
  rintro w F ⟨_, _, ⟨rv, g1, _⟩, ⟨lv, g2, _⟩, _⟩
  obtain ⟨q0, q1, q2, qz⟩ := three_cells g1
  obtain ⟨c0, c1, c2, c15, c16, c17, c18, c19, fz⟩ := rcom_cells g2
  clear g1 g2
  cases ovr
  · have hne : ring ≠ n := hn.resolve_left (by simp)
    have e1 : ((ring : Int) != (n : Int)) = true := by simp; omega
    clear hn hne
    go_enter Try.func22, Try.ntmps22
    go_wp2_with fail
    go_quiet (fail)
    go_wp2_with fail
    refine bodyPost_ret (v := _) (by simp [results, Try.results22, go_sem]; rfl) rfl ?_
    exact ⟨rfl, below_drewN (Below.refl _ _) _⟩
  · clear hn
    go_enter Try.func22, Try.ntmps22
    go_wp2_with fail
    go_quiet (fail)
    go_wp2_with fail
    refine bodyPost_ret (v := _) (by simp [results, Try.results22, go_sem]; rfl) rfl ?_
    exact ⟨rfl, below_drewN (Below.refl _ _) _⟩
set_option maxHeartbeats 1000000 in
theorem rcomStep_round (r y n cells : Nat) (l : List Acc) (last : Int) (mu : Bool) (fr : Int) (rs : Nat → Int) (stp : Int) (sn : Int) (L : List Int) (lkd : Bool) (th : Int) (Ox : HP) (k er v : Int)
    (hL : Lifts Try.prog 44 #[.pointer (some ⟨y, 0, none⟩), .pointer (some ⟨r, 0, none⟩), .int .i64 th] (RKStep r y n cells l n last mu fr rs false lkd stp false sn L) Ox (.returned (.tuple #[.int .i64 k, .int .i64 er, .int .i64 v]))) :
    Lifts Try.prog 22 #[.pointer (some ⟨y, 0, none⟩), .pointer (some ⟨r, 0, none⟩), .int .i64 th] (RKStep r y n cells l n last mu fr rs false lkd stp false sn L) Ox (.returned (.tuple #[.int .i64 k, .int .i64 er, .int .i64 v])) := by
  rintro w F hO
  have HO := Lib.hid hO
  obtain ⟨_, _, ⟨rv, g1, _⟩, ⟨lv, g2, _⟩, _⟩ := hO
  obtain ⟨q0, q1, q2, qz⟩ := three_cells g1
  obtain ⟨c0, c1, c2, c15, c16, c17, c18, c19, fz⟩ := rcom_cells g2
  have e1 : ((n : Int) != (n : Int)) = false := by simp
  clear g1 g2
  have HL := Lib.hid hL
  clear hL
  go_enter Try.func22, Try.ntmps22
  go_wp2_with fail
  go_quiet (fail)
  have H1 : Hid (Stp w (w.drewN nq) F _) := (Stp.refl HO.out).below (RKStep.good _ _ _ _ _ _ _ _ _ _ _ _ _ _ _ _) (below_drewN (Below.refl _ _) nq)
  go_wp2_with fail
  refine (Stp.lift HL.out H1.out).mono ?_
  rintro e w2 ⟨rfl, h2⟩
  have H2 := Lib.hid h2
  clear h2 H1 HL c0 c1 c2 c15 c16 c17 c18 c19 fz q0 q1 q2 qz
  go_wp2_with fail
  refine bodyPost_ret (v := _) (by simp [results, Try.results22, go_sem]; rfl) rfl ?_
  exact ⟨rfl, H2.out⟩
set_option maxHeartbeats 1000000 in
theorem rcomStep_wait (r y n cells : Nat) (l : List Acc) (last : Int) (mu : Bool) (fr : Int) (rs : Nat → Int) (stp : Int) (sn : Int) (L : List Int) (th : Int) (hok : OkW l) (hlen : l.length ≤ 3000000000000) (hn1 : 1 ≤ n) (hn2 : n ≤ 16) (hs0 : 0 ≤ sn) (hs1 : sn ≤ 1099511627776) (hb : lookB n mu sn (wordOf l 2 (slotZ (lookZ mu sn) n) 0) = false) :
    Lifts Try.prog 22 #[.pointer (some ⟨y, 0, none⟩), .pointer (some ⟨r, 0, none⟩), .int .i64 th] (RKStep r y n cells l n last mu fr rs true false stp false sn L) (RKStep r y n cells (l ++ [ldAcc th 2 (slotZ (lookZ mu sn) n) 0 (wordOf l 2 (slotZ (lookZ mu sn) n) 0)]) n last mu fr rs true false stp false sn L) (.returned (.tuple #[.int .i64 1, .int .i64 0, .int .i64 0])) := by
  rintro w F hO
  have HO := Lib.hid hO
  obtain ⟨_, _, ⟨rv, g1, _⟩, ⟨lv, g2, _⟩, _⟩ := hO
  obtain ⟨q0, q1, q2, qz⟩ := three_cells g1
  obtain ⟨c0, c1, c2, c15, c16, c17, c18, c19, fz⟩ := rcom_cells g2
  have e1 : ((n : Int) != (n : Int)) = false := by simp
  clear g1 g2
  have hL := rlook_any r y n cells l last mu fr rs stp sn L true false th hok hlen hn1 hn2 hs0 hs1
  rw [hb] at hL
  have HL := Lib.hid hL
  clear hL hb
  generalize (l ++ [ldAcc th 2 (slotZ (lookZ mu sn) n) 0 (wordOf l 2 (slotZ (lookZ mu sn) n) 0)]) = l2 at *
  go_enter Try.func22, Try.ntmps22
  go_wp2_with fail
  go_quiet (fail)
  have H1 : Hid (Stp w (w.drewN nq) F _) := (Stp.refl HO.out).below (RKStep.good _ _ _ _ _ _ _ _ _ _ _ _ _ _ _ _) (below_drewN (Below.refl _ _) nq)
  go_wp2_with fail
  refine (Stp.lift HL.out H1.out).mono ?_
  rintro e w2 ⟨rfl, h2⟩
  have H2 := Lib.hid h2
  clear h2 H1 HL c0 c1 c2 c15 c16 c17 c18 c19 fz q0 q1 q2 qz
  obtain ⟨lv2, g2⟩ : ∃ lv2, w2.heap[y]? = some (.cells (f10 n last mu fr rs true false stp false sn lv2) 115) := by
    obtain ⟨_, lv2, g2, _⟩ := H2.out.has.right
    exact ⟨lv2, g2⟩
  obtain ⟨c0, c1, c2, c15, c16, c17, c18, c19, fz⟩ := rcom_cells g2
  clear g2
  go_wp2_with fail
  refine bodyPost_ret (v := _) (by simp [results, Try.results22, go_sem]; rfl) rfl ?_
  exact ⟨rfl, H2.out.move (Moves.right (RMemH.good _ _ _ _) (LstH.set (f' := f10 n last mu fr rs true false stp false sn) 16 (.bool false) (fun _ => rfl)))⟩
set_option maxHeartbeats 1000000 in
theorem rcomStep_look (r y n cells : Nat) (l : List Acc) (last : Int) (mu : Bool) (fr : Int) (rs : Nat → Int) (stp : Int) (sn : Int) (L : List Int) (th : Int) (hok : OkW l) (hlen : l.length ≤ 3000000000000) (hn1 : 1 ≤ n) (hn2 : n ≤ 16) (hs0 : 0 ≤ sn) (hs1 : sn ≤ 1099511627776) (hb : lookB n mu sn (wordOf l 2 (slotZ (lookZ mu sn) n) 0) = true) :
    Lifts Try.prog 22 #[.pointer (some ⟨y, 0, none⟩), .pointer (some ⟨r, 0, none⟩), .int .i64 th] (RKStep r y n cells l n last mu fr rs true false stp false sn L) (RKStep r y n cells (l ++ [ldAcc th 2 (slotZ (lookZ mu sn) n) 0 (wordOf l 2 (slotZ (lookZ mu sn) n) 0)]) n last mu fr rs true true stp false sn L) (.returned (.tuple #[.int .i64 2, .int .i64 0, .int .i64 0])) := by
  rintro w F hO
  have HO := Lib.hid hO
  obtain ⟨_, _, ⟨rv, g1, _⟩, ⟨lv, g2, _⟩, _⟩ := hO
  obtain ⟨q0, q1, q2, qz⟩ := three_cells g1
  obtain ⟨c0, c1, c2, c15, c16, c17, c18, c19, fz⟩ := rcom_cells g2
  have e1 : ((n : Int) != (n : Int)) = false := by simp
  clear g1 g2
  have hL := rlook_any r y n cells l last mu fr rs stp sn L true false th hok hlen hn1 hn2 hs0 hs1
  rw [hb] at hL
  have HL := Lib.hid hL
  clear hL hb
  generalize (l ++ [ldAcc th 2 (slotZ (lookZ mu sn) n) 0 (wordOf l 2 (slotZ (lookZ mu sn) n) 0)]) = l2 at *
  go_enter Try.func22, Try.ntmps22
  go_wp2_with fail
  go_quiet (fail)
  have H1 : Hid (Stp w (w.drewN nq) F _) := (Stp.refl HO.out).below (RKStep.good _ _ _ _ _ _ _ _ _ _ _ _ _ _ _ _) (below_drewN (Below.refl _ _) nq)
  go_wp2_with fail
  refine (Stp.lift HL.out H1.out).mono ?_
  rintro e w2 ⟨rfl, h2⟩
  have H2 := Lib.hid h2
  clear h2 H1 HL c0 c1 c2 c15 c16 c17 c18 c19 fz q0 q1 q2 qz
  obtain ⟨lv2, g2⟩ : ∃ lv2, w2.heap[y]? = some (.cells (f10 n last mu fr rs true false stp false sn lv2) 115) := by
    obtain ⟨_, lv2, g2, _⟩ := H2.out.has.right
    exact ⟨lv2, g2⟩
  obtain ⟨c0, c1, c2, c15, c16, c17, c18, c19, fz⟩ := rcom_cells g2
  clear g2
  go_wp2_with fail
  refine bodyPost_ret (v := _) (by simp [results, Try.results22, go_sem]; rfl) rfl ?_
  exact ⟨rfl, H2.out.move (Moves.right (RMemH.good _ _ _ _) (LstH.set (f' := f10 n last mu fr rs true true stp false sn) 16 (.bool true) (fun _ => rfl)))⟩
set_option maxHeartbeats 1000000 in
theorem rcomStep_yes (r y n cells : Nat) (l : List Acc) (last : Int) (mu : Bool) (fr : Int) (rs : Nat → Int) (stp : Int) (sn : Int) (L : List Int) (th : Int) (hlen : l.length ≤ 3000000000000) (hs0 : 0 ≤ sn) (hs1 : sn ≤ 1099511627776) (hv : wordOf l 1 0 0 = sn) :
    Lifts Try.prog 22 #[.pointer (some ⟨y, 0, none⟩), .pointer (some ⟨r, 0, none⟩), .int .i64 th] (RKStep r y n cells l n last mu fr rs true true stp false sn L) (RKStep r y n cells (l ++ [swAcc th 1 0 0 sn (sn + 1) true]) n last mu fr rs true true (sn + 1) true sn L) (.returned (.tuple #[.int .i64 3, .int .i64 0, .int .i64 (sn + 1)])) := by
  rintro w F hO
  have HO := Lib.hid hO
  obtain ⟨_, _, ⟨rv, g1, _⟩, ⟨lv, g2, _⟩, _⟩ := hO
  obtain ⟨q0, q1, q2, qz⟩ := three_cells g1
  obtain ⟨c0, c1, c2, c15, c16, c17, c18, c19, fz⟩ := rcom_cells g2
  have e1 : ((n : Int) != (n : Int)) = false := by simp
  clear g1 g2
  have HL := Lib.hid (Lifts.left (B := RComH y n last mu fr rs true true stp false sn L) (LstH.good _ _ _ _ _) (rswap_yes r n cells l hlen th 1 0 0 sn (sn + 1) hv (.inl ⟨rfl, rfl, rfl⟩)))
  clear hv
  generalize (l ++ [swAcc th 1 0 0 sn (sn + 1) true]) = l2 at *
  go_enter Try.func22, Try.ntmps22
  go_wp2_with fail
  go_quiet (fail)
  have H1 : Hid (Stp w (w.drewN nq) F _) := (Stp.refl HO.out).below (RKStep.good _ _ _ _ _ _ _ _ _ _ _ _ _ _ _ _) (below_drewN (Below.refl _ _) nq)
  go_wp2_with fail
  refine (Stp.lift HL.out H1.out).mono ?_
  rintro e w2 ⟨rfl, h2⟩
  have H2 := Lib.hid h2
  clear h2 H1 HL c0 c1 c2 c15 c16 c17 c18 c19 fz q0 q1 q2 qz
  obtain ⟨lv2, g2⟩ : ∃ lv2, w2.heap[y]? = some (.cells (f10 n last mu fr rs true true stp false sn lv2) 115) := by
    obtain ⟨_, lv2, g2, _⟩ := H2.out.has.right
    exact ⟨lv2, g2⟩
  obtain ⟨c0, c1, c2, c15, c16, c17, c18, c19, fz⟩ := rcom_cells g2
  clear g2
  go_wp2_with fail
  refine bodyPost_ret (v := _) (by simp [results, Try.results22, go_sem]; rfl) rfl ?_
  exact ⟨rfl, (H2.out.move (Moves.right (RMemH.good _ _ _ _) (LstH.set (f' := f10 n last mu fr rs true true (sn + 1) false sn) 17 (.int .i64 (sn + 1)) (fun _ => rfl)))).move (Moves.right (RMemH.good _ _ _ _) (LstH.set (f' := f10 n last mu fr rs true true (sn + 1) true sn) 18 (.bool true) (fun _ => rfl)))⟩
set_option maxHeartbeats 1000000 in
theorem rcomStep_no (r y n cells : Nat) (l : List Acc) (last : Int) (mu : Bool) (fr : Int) (rs : Nat → Int) (stp : Int) (sn : Int) (L : List Int) (th : Int) (hlen : l.length ≤ 3000000000000) (hs0 : 0 ≤ sn) (hs1 : sn ≤ 1099511627776) (u : Int) (hv : wordOf l 1 0 0 = u) (hne : u ≠ sn) :
    Lifts Try.prog 22 #[.pointer (some ⟨y, 0, none⟩), .pointer (some ⟨r, 0, none⟩), .int .i64 th] (RKStep r y n cells l n last mu fr rs true true stp false sn L) (RKStep r y n cells (l ++ [swAcc th 1 0 0 sn (sn + 1) false]) n last mu fr rs false true stp false sn []) (.returned (.tuple #[.int .i64 2, .int .i64 0, .int .i64 0])) := by
  rintro w F hO
  have HO := Lib.hid hO
  obtain ⟨_, _, ⟨rv, g1, _⟩, ⟨lv, g2, _⟩, _⟩ := hO
  obtain ⟨q0, q1, q2, qz⟩ := three_cells g1
  obtain ⟨c0, c1, c2, c15, c16, c17, c18, c19, fz⟩ := rcom_cells g2
  have e1 : ((n : Int) != (n : Int)) = false := by simp
  clear g1 g2
  have HL := Lib.hid (Lifts.left (B := RComH y n last mu fr rs true true stp false sn L) (LstH.good _ _ _ _ _) (rswap_no r n cells l hlen th 1 0 0 sn (sn + 1) u hv hne (.inl ⟨rfl, rfl, rfl⟩)))
  clear hv
  generalize (l ++ [swAcc th 1 0 0 sn (sn + 1) false]) = l2 at *
  go_enter Try.func22, Try.ntmps22
  go_wp2_with fail
  go_quiet (fail)
  have H1 : Hid (Stp w (w.drewN nq) F _) := (Stp.refl HO.out).below (RKStep.good _ _ _ _ _ _ _ _ _ _ _ _ _ _ _ _) (below_drewN (Below.refl _ _) nq)
  go_wp2_with fail
  refine (Stp.lift HL.out H1.out).mono ?_
  rintro e w2 ⟨rfl, h2⟩
  have H2 := Lib.hid h2
  clear h2 H1 HL c0 c1 c2 c15 c16 c17 c18 c19 fz q0 q1 q2 qz
  obtain ⟨lv2, g2⟩ : ∃ lv2, w2.heap[y]? = some (.cells (f10 n last mu fr rs true true stp false sn lv2) 115) := by
    obtain ⟨_, lv2, g2, _⟩ := H2.out.has.right
    exact ⟨lv2, g2⟩
  obtain ⟨c0, c1, c2, c15, c16, c17, c18, c19, fz⟩ := rcom_cells g2
  have c14 := (rchk_cells (f10_off n last mu fr rs true true stp false sn) g2).c11
  clear g2
  go_wp2_with fail
  refine bodyPost_ret (v := _) (by simp [results, Try.results22, go_sem]; rfl) rfl ?_
  exact ⟨rfl, (H2.out.move (Moves.right (RMemH.good _ _ _ _) (LstH.set (f' := f10 n last mu fr rs false true stp false sn) 15 (.bool false) (fun _ => rfl)))).move (Moves.right (RMemH.good _ _ _ _) (LstH.nil (f' := f10 n last mu fr rs false true stp false sn) 14 (fun _ => rfl)))⟩
end Go.Proofs.Ytojkeahffabifaa
