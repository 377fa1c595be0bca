/- Layer 11: the reference's Step: what is looked at waits. -/
import Derived.Test.YtlmnljijpgpmiaaC11rm
import Derived.Deep.AppendLies
import Derived.Test.YtlmnljijpgpmiaaC11c
import Derived.Test.YtlmnljijpgpmiaaC11g
import Derived.Test.YtlmnljijpgpmiaaS11d
import Derived.Test.YtlmnljijpgpmiaaC3i
namespace Go.Proofs.Ytlmnljijpgpmiaa
open Go.RowKit
set_option linter.unusedVariables false
theorem knK_or (n : Nat) (mu : Bool) (st : Int) : knK n mu st = true ∨ knK n mu st = false := by cases knK n mu st <;> simp
theorem rbLooks_any (y : Nat) (d : BD) (hd : BDOk d) (k : Nat) (L : List Int) (sn : Bool) (hL : ∀ x ∈ L, I64 x) (hlen : L.length ≤ 3000000000000) :
    Looks Try.prog 36 #[.pointer (some ⟨y, 0, none⟩)] (RBakH y d k L sn) (.returned (lookV (lookP d.n (RepB d.n d.mu d.st d.s L)))) := by
  rcases knK_or d.n d.mu d.st with h | h
  · exact rbLooks_known y d hd k L sn h
  · exact rbLooks_loop y d hd k L sn h hL hlen
theorem RBM.load {r y cells k : Nat} {d : BD} {l l' : List Acc} {L : List Int} {sn : Bool} {f : FuncId} {args : Array Value} {v : Ending} (h : Lifts Try.prog f args (RMemH r d.n cells l) (RMemH r d.n cells l') v) : Lifts Try.prog f args (RBM r y d.n cells l d k L sn) (RBM r y d.n cells l' d k L sn) v := Lifts.left (RBakH.good _ _ _ _ _) h
set_option maxHeartbeats 4000000 in
set_option maxRecDepth 100000 in
theorem rbStep_wait (r y cells : Nat) (l : List Acc) (hlen : l.length ≤ 3000000000000) (d : BD) (hd : BDOk d) (k : Nat) (h9 : 9 ≤ k) (hkn : k ≠ d.W.length + 10) (L : List Int) (hL : ∀ x ∈ L, I64 x) (hLl : L.length ≤ 3000000000000) (sn : Bool) (th : Int) (hc : ∀ z ∈ d.W, z.1 < (cells : Int)) (kn me hd2 : Bool) (sp ak ai aj : Int) (hp : lookP d.n (RepB d.n d.mu d.st d.s L) = (false, kn, me, hd2, sp, ak, ai, aj)) (hA : isA d.n cells ak ai aj) (v : Int) (hv : wordOf l ak ai aj = v) (hvI : I64 v) (hw : hd2 = true ∧ overB v sp = false ∧ (me = true ∨ laidB v sp = false)) :
    Lifts Try.prog 21 #[.pointer (some ⟨y, 0, none⟩), .pointer (some ⟨r, 0, none⟩), .int .i64 th] (RBM r y d.n cells l d k L sn) (RBM r y d.n cells (l ++ [ldAcc th ak ai aj v]) d k L sn) (.returned (.int .i64 1)) := by
  have HRL := Lib.hid (RBM.load (y := y) (d := d) (k := k) (L := L) (sn := sn) (rload_in r d.n cells l hlen th ak ai aj hA))
  rw [hv] at HRL
  have HVO := Lib.hid (refOver_any v sp hvI)
  have HVL := Lib.hid (refLaid_any v sp hvI)
  obtain ⟨rfl, ho, hm⟩ := hw
  rw [ho] at HVO
  generalize hla : laidB v sp = la at *
  rintro w F hO
  have hOv := rbOver_any y d hd k L sn
  rw [show (k == d.W.length + 10) = false by simpa using hkn] at hOv
  have HA := Lib.hid (fun w1 (h : Stp w w1 F (RBM r y d.n cells l d k L sn)) => Stp.look (RBM.good _ _ _ _ _ _ _ _ _) (Looks.right (A := RMemH r d.n cells l) hOv) h)
  have HL := Lib.hid (fun w1 (h : Stp w w1 F (RBM r y d.n cells l d k L sn)) => Stp.look (RBM.good _ _ _ _ _ _ _ _ _) (rbLacks_any y r d.n cells l d hd k L sn rfl hc) h)
  have HLK := Lib.hid (fun w1 (h : Stp w w1 F (RBM r y d.n cells l d k L sn)) => Stp.look (RBM.good _ _ _ _ _ _ _ _ _) (Looks.right (A := RMemH r d.n cells l) (rbLooks_any y d hd k L sn hL hLl)) h)
  rw [hp] at HLK
  have HSL := Lib.hid (fun w => (refSlot_any d.st d.n w).mono fun _ _ h => (⟨h.1, h.2.symm⟩ : _ = _ ∧ _ = _))
  have HS := Lib.hid (Stp.refl hO)
  have h9i : (9 : Int) ≤ k := by omega
  have h8n : ((k : Int) == 8) = false := by simp; omega
  have HDS : Hid (1 ≤ d.st ∧ d.st ≤ 1099511627776) := hd.st
  have HDN : Hid (1 ≤ d.n ∧ d.n ≤ 16) := hd.n
  have HDL : Hid (d.W.length ≤ 24) := hd.len
  clear hO
  go_enter Try.func21, Try.ntmps21
  go_wp2_with fail
  refine (HA.out _ HS.out).mono ?_; rintro e w2 ⟨rfl, h2⟩
  go_wp2_with fail
  refine (HL.out _ h2).mono ?_; rintro e w3 ⟨rfl, h3⟩
  have H3 := Lib.hid h3
  obtain ⟨lv, hR⟩ := RBM.cells h3
  have c0 := hR.c0
  have c2 := hR.c2
  have c12 := hR.c12
  have fz := hR.fz
  clear h2 h3 HA HL HS hR
  go_wp2_with fail
  go_quiet ((go_at_call 35; refine Calls.quiet_of_same (HSL.out _)))
  have H4 := Lib.hid (H3.out.below (RBM.good _ _ _ _ _ _ _ _ _) (below_drewN (Below.refl _ _) nq))
  obtain ⟨lv4, hR4⟩ := RBM.cells H4.out
  have k12 := hR4.c12
  have kz := hR4.fz
  generalize w3.drewN nq = w4 at *
  clear hR4 c0 c2 c12 fz H3
  go_wp2_with fail
  refine (HLK.out _ H4.out).mono ?_; rintro e w5 ⟨rfl, h5⟩
  have GX := Lib.hid (BlkH.good w5.heap.size #[.bool false, .bool kn, .bool me, .bool true, .int .i64 sp, .int .i64 ak, .int .i64 ai, .int .i64 aj] 99)
  have GR := Lib.hid (RBM.good r y d.n cells l d k L sn)
  have H5 := Lib.hid (h5.box GR.out #[.bool false, .bool kn, .bool me, .bool true, .int .i64 sp, .int .i64 ak, .int .i64 ai, .int .i64 aj] 99)
  obtain ⟨b0, b1, b2, b3, b4, b5, b6, b7, bz⟩ := look_cells H5.out.has.right.blk
  obtain ⟨lv5, hR5⟩ := RBM.cells H5.out.fst
  have e0 := hR5.c0
  have e2 := hR5.c2
  have e3 := hR5.c3
  have e12 := hR5.c12
  have e14 := hR5.c14
  have ez := hR5.fz
  clear h5 HLK H4 hR5 k12 kz
  unfold lookV
  go_wp2_with fail
  refine (Stp.lift (Lifts.left GX.out HRL.out) H5.out).mono ?_; rintro e w6 ⟨rfl, h6⟩
  have H6 := Lib.hid h6
  obtain ⟨d0, d1, d2, d3, d4, d5, d6, d7, dz⟩ := look_cells h6.has.right.blk
  clear h6 H5 HRL b0 b1 b2 b3 b4 b5 b6 b7 bz e0 e2 e3 e12 e14 ez
  go_wp2_with fail
  refine (HVO.out _).mono ?_; rintro e w7 ⟨rfl, rfl⟩
  go_wp2_with fail
  refine (HVL.out _).mono ?_; rintro e w7 ⟨rfl, rfl⟩
  clear hla
  have hm2 : me = true ∨ (me = false ∧ la = false) := by revert hm; cases me <;> cases la <;> simp
  clear hm
  rcases hm2 with rfl | ⟨rfl, rfl⟩
  all_goals
    go_wp2_with fail
    refine bodyPost_ret (v := _) (by simp [results, Try.results21, go_sem]; rfl) rfl ?_
    exact ⟨rfl, H6.out.fst⟩
end Go.Proofs.Ytlmnljijpgpmiaa
namespace Go.Proofs.Ytlmnljijpgpmiaa
open Go.RowKit
set_option linter.unusedVariables false
theorem infoI64b : (Try.prog.info? 2).map (fun i => (i.zero, i.size, i.bytes)) = some (some (.int .i64 0), 1, 8) := by kernel_rfl
set_option maxHeartbeats 8000000 in
set_option maxRecDepth 100000 in
theorem rbStep_load (r y cells : Nat) (l : List Acc) (hlen : l.length ≤ 3000000000000) (d : BD) (hd : BDOk d) (k : Nat) (h9 : 9 ≤ k) (hkn : k ≠ d.W.length + 10) (L : List Int) (hL : ∀ x ∈ L, I64 x) (hLl : L.length ≤ 3000000000000) (sn : Bool) (th : Int) (hc : ∀ z ∈ d.W, z.1 < (cells : Int)) (kn me hd2 : Bool) (sp ak ai aj : Int) (hp : lookP d.n (RepB d.n d.mu d.st d.s L) = (false, kn, me, hd2, sp, ak, ai, aj)) (hA : isA d.n cells ak ai aj) (v : Int) (hv : wordOf l ak ai aj = v) (hvI : I64 v) (hw : hd2 = false ∨ overB v sp = true ∨ (me = false ∧ laidB v sp = true)) :
    Lifts Try.prog 21 #[.pointer (some ⟨y, 0, none⟩), .pointer (some ⟨r, 0, none⟩), .int .i64 th] (RBM r y d.n cells l d k L sn) (RBM r y d.n cells (l ++ [ldAcc th ak ai aj v]) d k (L ++ [v]) sn) (.returned (.int .i64 2)) := by
  obtain ⟨i0, hi, hI0, hI1, hI2⟩ := info_parts infoI64b
  have HRL := Lib.hid (RBM.load (y := y) (d := d) (k := k) (L := L) (sn := sn) (rload_in r d.n cells l hlen th ak ai aj hA))
  rw [hv] at HRL
  have HVO := Lib.hid (refOver_any v sp hvI)
  have HVL := Lib.hid (refLaid_any v sp hvI)
  generalize hov : overB v sp = ov at *
  generalize hla : laidB v sp = la at *
  rintro w F hO
  have hOv := rbOver_any y d hd k L sn
  rw [show (k == d.W.length + 10) = false by simpa using hkn] at hOv
  have HA := Lib.hid (fun w1 (h : Stp w w1 F (RBM r y d.n cells l d k L sn)) => Stp.look (RBM.good _ _ _ _ _ _ _ _ _) (Looks.right (A := RMemH r d.n cells l) hOv) h)
  have HL := Lib.hid (fun w1 (h : Stp w w1 F (RBM r y d.n cells l d k L sn)) => Stp.look (RBM.good _ _ _ _ _ _ _ _ _) (rbLacks_any y r d.n cells l d hd k L sn rfl hc) h)
  have HLK := Lib.hid (fun w1 (h : Stp w w1 F (RBM r y d.n cells l d k L sn)) => Stp.look (RBM.good _ _ _ _ _ _ _ _ _) (Looks.right (A := RMemH r d.n cells l) (rbLooks_any y d hd k L sn hL hLl)) h)
  rw [hp] at HLK
  have HSL := Lib.hid (fun w => (refSlot_any d.st d.n w).mono fun _ _ h => (⟨h.1, h.2.symm⟩ : _ = _ ∧ _ = _))
  have HS := Lib.hid (Stp.refl hO)
  have h9i : (9 : Int) ≤ k := by omega
  have h8n : ((k : Int) == 8) = false := by simp; omega
  have HDS : Hid (1 ≤ d.st ∧ d.st ≤ 1099511627776) := hd.st
  have HDN : Hid (1 ≤ d.n ∧ d.n ≤ 16) := hd.n
  have HDL : Hid (d.W.length ≤ 24) := hd.len
  clear hO
  go_enter Try.func21, Try.ntmps21
  go_wp2_with fail
  refine (HA.out _ HS.out).mono ?_; rintro e w2 ⟨rfl, h2⟩
  go_wp2_with fail
  refine (HL.out _ h2).mono ?_; rintro e w3 ⟨rfl, h3⟩
  have H3 := Lib.hid h3
  obtain ⟨lv, hR⟩ := RBM.cells h3
  have c0 := hR.c0
  have c2 := hR.c2
  have c12 := hR.c12
  have fz := hR.fz
  clear h2 h3 HA HL HS hR
  go_wp2_with fail
  go_quiet ((go_at_call 35; refine Calls.quiet_of_same (HSL.out _)))
  have H4 := Lib.hid (H3.out.below (RBM.good _ _ _ _ _ _ _ _ _) (below_drewN (Below.refl _ _) nq))
  obtain ⟨lv4, hR4⟩ := RBM.cells H4.out
  have k12 := hR4.c12
  have kz := hR4.fz
  generalize w3.drewN nq = w4 at *
  clear hR4 c0 c2 c12 fz H3
  go_wp2_with fail
  refine (HLK.out _ H4.out).mono ?_; rintro e w5 ⟨rfl, h5⟩
  have GX := Lib.hid (BlkH.good w5.heap.size #[.bool false, .bool kn, .bool me, .bool hd2, .int .i64 sp, .int .i64 ak, .int .i64 ai, .int .i64 aj] 99)
  have GR := Lib.hid (RBM.good r y d.n cells l d k L sn)
  have H5 := Lib.hid (h5.box GR.out #[.bool false, .bool kn, .bool me, .bool hd2, .int .i64 sp, .int .i64 ak, .int .i64 ai, .int .i64 aj] 99)
  obtain ⟨b0, b1, b2, b3, b4, b5, b6, b7, bz⟩ := look_cells H5.out.has.right.blk
  obtain ⟨lv5, hR5⟩ := RBM.cells H5.out.fst
  have e0 := hR5.c0
  have e2 := hR5.c2
  have e3 := hR5.c3
  have e12 := hR5.c12
  have e14 := hR5.c14
  have ez := hR5.fz
  clear h5 HLK H4 hR5 k12 kz
  unfold lookV
  go_wp2_with fail
  refine (Stp.lift (Lifts.left GX.out HRL.out) H5.out).mono ?_; rintro e w6 ⟨rfl, h6⟩
  have H6 := Lib.hid h6
  obtain ⟨d0, d1, d2, d3, d4, d5, d6, d7, dz⟩ := look_cells h6.has.right.blk
  clear h6 H5 HRL b0 b1 b2 b3 b4 b5 b6 b7 bz e0 e2 e3 e12 e14 ez
  go_wp2_with fail
  refine (HVO.out _).mono ?_; rintro e w7 ⟨rfl, rfl⟩
  go_wp2_with fail
  refine (HVL.out _).mono ?_; rintro e w7 ⟨rfl, rfl⟩
  clear hla hov
  have H7 := Lib.hid H6.out.fst
  obtain ⟨F4, ⟨FA4, FB4, hA4, ⟨FR, FL, hRow, ⟨lv6, k1, k2, k3, k4⟩, hF3, hd3⟩, hF4, hd4⟩, c4⟩ := H7.out
  have HA4 := Lib.hid hA4
  have HRW := Lib.hid hRow
  have K1 := Lib.hid k1
  have K2 := Lib.hid k2
  have K3 := Lib.hid k3
  have K4 := Lib.hid k4
  have HFD3 := Lib.hid (And.intro hF3 hd3)
  have HFD4 := Lib.hid (And.intro hF4 hd4)
  have HC4 := Lib.hid c4
  obtain ⟨a4, ca4, rfl⟩ := ownAt_form k2
  have hR6 := rb_cells k1
  have c13 := hR6.c13
  have fz := hR6.fz
  have hown := k2
  have hyl := heap_lt k1
  clear hA4 hRow k1 k2 k3 k4 hF3 hd3 hF4 hd4 c4 hR6
  have hcase : (hd2 = false) ∨ (hd2 = true ∧ ov = true) ∨ (hd2 = true ∧ ov = false ∧ me = false ∧ la = true) := by
    revert hw; cases hd2 <;> cases ov <;> cases me <;> cases la <;> simp
  clear hw
  rcases hcase with rfl | ⟨rfl, rfl⟩ | ⟨rfl, rfl, rfl, rfl⟩
  all_goals
    go_wp2_with (at_builtin; refine wpList_append_own_at _ rfl (.tmp 130) (.tmp 132) 71 rfl 0 2 i0 (.int .i64 0) 1 8 Try.underlying71 hi hI0 hI1 hI2 rfl (by decide) _ _ _ rfl (hown.alloc _) ⟨w6.heap.size, 0, none⟩ 1 1 [.int .i64 v] rfl rfl ?c1 ?c2 ?c3 ?c4 ?c5 ?_)
    case c1 => exact cell_one_new _ _ _
    case c2 => intro u hu; simp at hu; subst hu; rfl
    case c3 => unfold maxLen; omega
    case c4 => omega
    case c5 => omega
    intro v' w7 hown' hgrow _ hwhere
    obtain ⟨a5, ca5, rfl⟩ := ownAt_form hown'
    have hC5 : Chg (fun b => (Value.slice a4 L.length ca4).ownBlock = some b) w6 w7 := (Chg.alloc _ _ _).grow hgrow (fun b hb _ => hb)
    have hT := rb_cells ((hC5.block y hyl (fun e => K3.out e)).trans K1.out)
    have t13 := hT.c13
    have tz := hT.fz
    have hM5 := lst_grown (i := 13) (f := rbC d k sn) (L' := L ++ [v]) K1.out K3.out K4.out (by simp [rbC]) (by rw [List.map_append, List.length_append]; exact hown') hC5 (by
      rcases hwhere with e | e
      · exact .inl e
      · exact .inr ⟨_, e, by simp⟩)
    have H8 : Hid (Stp w _ F (RBM r y d.n cells (l ++ [ldAcc th ak ai aj v]) d k (L ++ [v]) sn)) := Stp.comp HC4.out.1 HC4.out.2 ((hM5.right (RowH.good _ _) HRW.out HFD3.out.1 HFD3.out.2).right (RMemH.good _ _ _ _) HA4.out HFD4.out.1 HFD4.out.2)
    clear hown hown' hgrow hwhere hC5 hM5 hT c13 fz
    go_wp2_with fail
    refine bodyPost_ret (v := _) (by simp [results, Try.results21, go_sem]; rfl) rfl ?_
    exact ⟨rfl, H8.out⟩
end Go.Proofs.Ytlmnljijpgpmiaa
namespace Go.Proofs.Ytlmnljijpgpmiaa
open Go.RowKit
set_option linter.unusedVariables false
set_option maxHeartbeats 8000000 in
set_option maxRecDepth 100000 in
theorem rbStep_write (r y cells : Nat) (l : List Acc) (hlen : l.length ≤ 3000000000000) (d : BD) (hd : BDOk d) (k : Nat) (h9 : 9 ≤ k) (hkn : k ≠ d.W.length + 10) (L : List Int) (hL : ∀ x ∈ L, I64 x) (hLl : L.length ≤ 3000000000000) (sn : Bool) (th : Int) (hc : ∀ z ∈ d.W, z.1 < (cells : Int)) (hc0 : ∀ z ∈ d.W, 0 ≤ z.1) (kn me hd2 : Bool) (sp ak ai aj : Int) (hp : lookP d.n (RepB d.n d.mu d.st d.s L) = (true, kn, me, hd2, sp, ak, ai, aj)) (i : Nat) (hki : k = i + 9) (v1 v2 : Int) (hz : d.W[i]? = some (v1, v2)) :
    Lifts Try.prog 21 #[.pointer (some ⟨y, 0, none⟩), .pointer (some ⟨r, 0, none⟩), .int .i64 th] (RBM r y d.n cells l d k L sn) (RBM r y d.n cells (l ++ [stAcc th 4 v1 0 v2]) d (k + 1) L sn) (.returned (.int .i64 2)) := by
  have hm := And.intro (hc0 _ (List.mem_of_getElem? hz)) (hc _ (List.mem_of_getElem? hz))
  have HRL := Lib.hid (RBM.load (y := y) (d := d) (k := k) (L := L) (sn := sn) (rstore_in r d.n cells l hlen th 4 v1 0 v2 (.inr (.inr (.inr ⟨rfl, hm, rfl⟩)))))
  have HZ := Lib.hid hz
  have hiN : i < d.W.length := (List.getElem?_eq_some_iff.1 hz).1
  have HSET : Hid (∀ w w1 F v, v = ((k + 1 : Nat) : Int) → Stp w w1 F (RBM r y d.n cells (l ++ [stAcc th 4 v1 0 v2]) d k L sn) → Stp w (w1.setCell ⟨y, 12, none⟩ (.int .i64 v)) F (RBM r y d.n cells (l ++ [stAcc th 4 v1 0 v2]) d (k + 1) L sn)) := fun w w1 F v hv h => by
    subst hv
    exact h.move (Moves.right (RMemH.good _ _ _ _) (Moves.right (RowH.good _ _) (LstH.set11 (f' := rbC d (k + 1) sn) 12 (.int .i64 ((k + 1 : Nat) : Int)) (fun _ => rfl))))
  have HB1 : Hid ((i : Int) + 9 + 1 = ((k + 1 : Nat) : Int)) := by show _ = _; omega
  have HB2 : Hid ((i : Int) + 10 = ((k + 1 : Nat) : Int)) := by show _ = _; omega
  have HKI : Hid ((k : Int) = (i : Int) + 9) := by show _ = _; omega
  clear hm hz
  rintro w F hO
  have hOv := rbOver_any y d hd k L sn
  rw [show (k == d.W.length + 10) = false by simpa using hkn] at hOv
  have HA := Lib.hid (fun w1 (h : Stp w w1 F (RBM r y d.n cells l d k L sn)) => Stp.look (RBM.good _ _ _ _ _ _ _ _ _) (Looks.right (A := RMemH r d.n cells l) hOv) h)
  have HL := Lib.hid (fun w1 (h : Stp w w1 F (RBM r y d.n cells l d k L sn)) => Stp.look (RBM.good _ _ _ _ _ _ _ _ _) (rbLacks_any y r d.n cells l d hd k L sn rfl hc) h)
  have HLK := Lib.hid (fun w1 (h : Stp w w1 F (RBM r y d.n cells l d k L sn)) => Stp.look (RBM.good _ _ _ _ _ _ _ _ _) (Looks.right (A := RMemH r d.n cells l) (rbLooks_any y d hd k L sn hL hLl)) h)
  rw [hp] at HLK
  have HSL := Lib.hid (fun w => (refSlot_any d.st d.n w).mono fun _ _ h => (⟨h.1, h.2.symm⟩ : _ = _ ∧ _ = _))
  have HS := Lib.hid (Stp.refl hO)
  have h9i : (9 : Int) ≤ k := by omega
  have h8n : ((k : Int) == 8) = false := by simp; omega
  have HDS : Hid (1 ≤ d.st ∧ d.st ≤ 1099511627776) := hd.st
  have HDN : Hid (1 ≤ d.n ∧ d.n ≤ 16) := hd.n
  have HDL : Hid (d.W.length ≤ 24) := hd.len
  clear hO
  go_enter Try.func21, Try.ntmps21
  go_wp2_with fail
  refine (HA.out _ HS.out).mono ?_; rintro e w2 ⟨rfl, h2⟩
  go_wp2_with fail
  refine (HL.out _ h2).mono ?_; rintro e w3 ⟨rfl, h3⟩
  have H3 := Lib.hid h3
  obtain ⟨lv, hR⟩ := RBM.cells h3
  have c0 := hR.c0
  have c2 := hR.c2
  have c12 := hR.c12
  have fz := hR.fz
  clear h2 h3 HA HL HS hR
  go_wp2_with fail
  go_quiet ((go_at_call 35; refine Calls.quiet_of_same (HSL.out _)))
  have H4 := Lib.hid (H3.out.below (RBM.good _ _ _ _ _ _ _ _ _) (below_drewN (Below.refl _ _) nq))
  obtain ⟨lv4, hR4⟩ := RBM.cells H4.out
  have k12 := hR4.c12
  have kz := hR4.fz
  generalize w3.drewN nq = w4 at *
  clear hR4 c0 c2 c12 fz H3
  go_wp2_with fail
  refine (HLK.out _ H4.out).mono ?_; rintro e w5 ⟨rfl, h5⟩
  have GX := Lib.hid (BlkH.good w5.heap.size #[.bool true, .bool kn, .bool me, .bool hd2, .int .i64 sp, .int .i64 ak, .int .i64 ai, .int .i64 aj] 99)
  have GR := Lib.hid (RBM.good r y d.n cells l d k L sn)
  have H5 := Lib.hid (h5.box GR.out #[.bool true, .bool kn, .bool me, .bool hd2, .int .i64 sp, .int .i64 ak, .int .i64 ai, .int .i64 aj] 99)
  obtain ⟨b0, b1, b2, b3, b4, b5, b6, b7, bz⟩ := look_cells H5.out.has.right.blk
  obtain ⟨lv5, hR5⟩ := RBM.cells H5.out.fst
  have e0 := hR5.c0
  have e2 := hR5.c2
  have e3 := hR5.c3
  have e12 := hR5.c12
  have e14 := hR5.c14
  have ez := hR5.fz
  clear h5 HLK H4 hR5 k12 kz
  unfold lookV
  rw [HKI.out] at e12
  have hNl := HDL.out
  obtain ⟨g, gc, hlv, q0, q1⟩ := row_at (H5.out.has.left.right.left.choose_spec.1) HZ.out
  have HLV := Lib.hid hlv
  rw [hlv] at e3
  obtain ⟨N, hN⟩ : ∃ N, d.W.length = N := ⟨_, rfl⟩
  have HN := Lib.hid hN
  rw [hN] at e3 hiN hNl
  have hiNi : (i : Int) < N := by omega
  clear hlv hN q0 q1 h9 hkn hki
  go_wp2_with fail
  go_quiet (fail)
  have H6 := Lib.hid (H5.out.below (GR.out.star GX.out) (below_drewN (Below.refl _ _) nq))
  clear H5 b0 b1 b2 b3 b4 b5 b6 b7 bz e0 e2 e3 e12 e14 ez
  generalize (w5.alloc _).drewN nq = w6 at *
  obtain ⟨b0, b1, b2, b3, b4, b5, b6, b7, bz⟩ := look_cells H6.out.has.right.blk
  obtain ⟨lv6, hR6⟩ := RBM.cells H6.out.fst
  have e0 := hR6.c0
  have e2 := hR6.c2
  have e3 := hR6.c3
  have e12 := hR6.c12
  have e14 := hR6.c14
  have ez := hR6.fz
  clear hR6
  obtain ⟨g2, gc2, hlv2, q0, q1⟩ := row_at (H6.out.has.left.right.left.choose_spec.1) HZ.out
  have hro := H6.out.has.left.right.left.choose_spec.1
  have hgl : g2 < w6.heap.size := by
    rw [hlv2] at hro
    exact (hro.lt g2 rfl).2
  have hyl : y < w6.heap.size := by
    obtain ⟨_, _, gg, _⟩ := H6.out.has.left.right.right
    exact heap_lt gg
  rw [hlv2, HN.out] at e3
  rw [HKI.out] at e12
  clear hlv2 hro
  go_wp2_with fail
  go_region
  have HBX := Lib.hid ((H6.out.box (GR.out.star GX.out) #[.int .i64 v1, .int .i64 v2] 29).drew ((GR.out.star GX.out).star (BlkH.good _ _ _)))
  clear q0 q1 e0 e2 e3 e12 e14 ez b0 b1 b2 b3 b4 b5 b6 b7 bz hgl H6
  generalize (w6.alloc (.cells #[.int .i64 v1, .int .i64 v2] 29)).drew = w7 at *
  obtain ⟨p0, p1, pz⟩ := two_at11 HBX.out.has.right.blk
  go_wp2_with fail
  refine (Stp.lift (Lifts.left (BlkH.good _ _ _) (Lifts.left GX.out HRL.out)) HBX.out).mono ?_; rintro e w8 ⟨rfl, h8⟩
  have H8 := Lib.hid h8.fst.fst
  obtain ⟨lv8, hR8⟩ := RBM.cells h8.fst.fst
  have f12 := hR8.c12
  rw [HKI.out] at f12
  have fz := hR8.fz
  clear h8 hR8 HBX p0 p1 pz HRL
  go_wp2_with fail
  refine bodyPost_ret (v := _) (by simp [results, Try.results21, go_sem]; rfl) rfl ?_
  first
  | exact ⟨rfl, HSET.out _ _ _ _ HB2.out H8.out⟩
  | exact ⟨rfl, HSET.out _ _ _ _ HB1.out H8.out⟩
end Go.Proofs.Ytlmnljijpgpmiaa
namespace Go.Proofs.Ytlmnljijpgpmiaa
open Go.RowKit
set_option linter.unusedVariables false
set_option maxHeartbeats 8000000 in
set_option maxRecDepth 100000 in
theorem rbStep_order (r y cells : Nat) (l : List Acc) (hlen : l.length ≤ 3000000000000) (d : BD) (hd : BDOk d) (k : Nat) (h9 : 9 ≤ k) (hkn : k ≠ d.W.length + 10) (L : List Int) (hL : ∀ x ∈ L, I64 x) (hLl : L.length ≤ 3000000000000) (sn : Bool) (th : Int) (hc : ∀ z ∈ d.W, z.1 < (cells : Int)) (hkN : k = d.W.length + 9) (me hd2 : Bool) (sp ak ai aj : Int) (hp : lookP d.n (RepB d.n d.mu d.st d.s L) = (true, false, me, hd2, sp, ak, ai, aj)) (hsn : sn = false) (v : Int) (hv : wordOf l 2 (slotZ (d.st - 1) d.n) 0 = v) (hvI : I64 v) (ov : Bool) (hov : overB v (d.st - 1) = ov) (rs : Int) (hrs : rs = if ov = true then 2 else 1) :
    Lifts Try.prog 21 #[.pointer (some ⟨y, 0, none⟩), .pointer (some ⟨r, 0, none⟩), .int .i64 th] (RBM r y d.n cells l d k L sn) (RBM r y d.n cells (l ++ [ldAcc th 2 (slotZ (d.st - 1) d.n) 0 v]) d k L ov) (.returned (.int .i64 rs)) := by
  have HRS := Lib.hid hrs
  clear hrs
  have HRL := Lib.hid (RBM.load (y := y) (d := d) (k := k) (L := L) (sn := sn) (rload_in r d.n cells l hlen th 2 (slotZ (d.st - 1) d.n) 0 (.inr (.inl ⟨rfl, slotZ_lt (d.st - 1) d.n (by have := hd.n; omega) (by have := hd.n; omega), rfl⟩))))
  rw [hv] at HRL
  have HVO := Lib.hid (refOver_any v (d.st - 1) hvI)
  rw [hov] at HVO
  clear hov
  have HSL2 := Lib.hid (fun w => (refSlot_any (d.st - 1) d.n w).mono fun _ _ h => (⟨h.1, h.2.symm⟩ : _ = _ ∧ _ = _))
  have HSET : Hid (∀ w w1 F b, Stp w w1 F (RBM r y d.n cells (l ++ [ldAcc th 2 (slotZ (d.st - 1) d.n) 0 v]) d k L sn) → Stp w (w1.setCell ⟨y, 14, none⟩ (.bool b)) F (RBM r y d.n cells (l ++ [ldAcc th 2 (slotZ (d.st - 1) d.n) 0 v]) d k L b)) := fun w w1 F b h => by
    exact h.move (Moves.right (RMemH.good _ _ _ _) (Moves.right (RowH.good _ _) (LstH.set11 (f' := rbC d k b) 14 (.bool b) (fun _ => rfl))))
  rintro w F hO
  have hOv := rbOver_any y d hd k L sn
  rw [show (k == d.W.length + 10) = false by simpa using hkn] at hOv
  have HA := Lib.hid (fun w1 (h : Stp w w1 F (RBM r y d.n cells l d k L sn)) => Stp.look (RBM.good _ _ _ _ _ _ _ _ _) (Looks.right (A := RMemH r d.n cells l) hOv) h)
  have HL := Lib.hid (fun w1 (h : Stp w w1 F (RBM r y d.n cells l d k L sn)) => Stp.look (RBM.good _ _ _ _ _ _ _ _ _) (rbLacks_any y r d.n cells l d hd k L sn rfl hc) h)
  have HLK := Lib.hid (fun w1 (h : Stp w w1 F (RBM r y d.n cells l d k L sn)) => Stp.look (RBM.good _ _ _ _ _ _ _ _ _) (Looks.right (A := RMemH r d.n cells l) (rbLooks_any y d hd k L sn hL hLl)) h)
  rw [hp] at HLK
  have HSL := Lib.hid (fun w => (refSlot_any d.st d.n w).mono fun _ _ h => (⟨h.1, h.2.symm⟩ : _ = _ ∧ _ = _))
  have HS := Lib.hid (Stp.refl hO)
  have h9i : (9 : Int) ≤ k := by omega
  have h8n : ((k : Int) == 8) = false := by simp; omega
  have HDS : Hid (1 ≤ d.st ∧ d.st ≤ 1099511627776) := hd.st
  have HDN : Hid (1 ≤ d.n ∧ d.n ≤ 16) := hd.n
  have HDL : Hid (d.W.length ≤ 24) := hd.len
  clear hO
  go_enter Try.func21, Try.ntmps21
  go_wp2_with fail
  refine (HA.out _ HS.out).mono ?_; rintro e w2 ⟨rfl, h2⟩
  go_wp2_with fail
  refine (HL.out _ h2).mono ?_; rintro e w3 ⟨rfl, h3⟩
  have H3 := Lib.hid h3
  obtain ⟨lv, hR⟩ := RBM.cells h3
  have c0 := hR.c0
  have c2 := hR.c2
  have c12 := hR.c12
  have fz := hR.fz
  clear h2 h3 HA HL HS hR
  go_wp2_with fail
  go_quiet ((go_at_call 35; refine Calls.quiet_of_same (HSL.out _)))
  have H4 := Lib.hid (H3.out.below (RBM.good _ _ _ _ _ _ _ _ _) (below_drewN (Below.refl _ _) nq))
  obtain ⟨lv4, hR4⟩ := RBM.cells H4.out
  have k12 := hR4.c12
  have kz := hR4.fz
  generalize w3.drewN nq = w4 at *
  clear hR4 c0 c2 c12 fz H3
  go_wp2_with fail
  refine (HLK.out _ H4.out).mono ?_; rintro e w5 ⟨rfl, h5⟩
  have GX := Lib.hid (BlkH.good w5.heap.size #[.bool true, .bool false, .bool me, .bool hd2, .int .i64 sp, .int .i64 ak, .int .i64 ai, .int .i64 aj] 99)
  have GR := Lib.hid (RBM.good r y d.n cells l d k L sn)
  have H5 := Lib.hid (h5.box GR.out #[.bool true, .bool false, .bool me, .bool hd2, .int .i64 sp, .int .i64 ak, .int .i64 ai, .int .i64 aj] 99)
  obtain ⟨b0, b1, b2, b3, b4, b5, b6, b7, bz⟩ := look_cells H5.out.has.right.blk
  obtain ⟨lv5, hR5⟩ := RBM.cells H5.out.fst
  have e0 := hR5.c0
  have e2 := hR5.c2
  have e3 := hR5.c3
  have e12 := hR5.c12
  have e14 := hR5.c14
  have ez := hR5.fz
  clear h5 HLK H4 hR5 k12 kz
  unfold lookV
  obtain ⟨hst1, hst2⟩ := HDS.out
  obtain ⟨hdn1, hdn2⟩ := HDN.out
  have hNl := HDL.out
  have hkNi : (k : Int) = (d.W.length : Int) + 9 := by omega
  have hrow5 := H5.out.has.left.right.left.choose_spec.1
  obtain ⟨ra, rc, hlv⟩ := ownAt_form hrow5
  have HLV := Lib.hid hlv
  rw [hlv] at e3
  rw [hkNi] at e12
  clear hlv hrow5
  obtain ⟨N, hN⟩ : ∃ N, d.W.length = N := ⟨_, rfl⟩
  have HN := Lib.hid hN
  rw [hN] at e3 e12 hkNi hNl
  clear hN h9 hkn hkN
  go_wp2_with fail
  go_quiet (fail)
  have H6 := Lib.hid (H5.out.below (GR.out.star GX.out) (below_drewN (Below.refl _ _) nq))
  clear H5 b0 b1 b2 b3 b4 b5 b6 b7 bz e0 e2 e3 e12 e14 ez
  generalize (w5.alloc _).drewN nq = w6 at *
  obtain ⟨b0, b1, b2, b3, b4, b5, b6, b7, bz⟩ := look_cells H6.out.has.right.blk
  obtain ⟨lv6, hR6⟩ := RBM.cells H6.out.fst
  have e0 := hR6.c0
  have e2 := hR6.c2
  have e3 := hR6.c3
  have e12 := hR6.c12
  have e14 := hR6.c14
  have ez := hR6.fz
  clear hR6
  rw [HLV.out, HN.out] at e3
  rw [hkNi] at e12
  rw [hsn] at e14
  clear hsn
  have hw1 : IntKind.i64.wrap (d.st - 1) = d.st - 1 := by rw [IntKind.wrap_i64]; omega
  go_wp2_with fail
  go_quiet ((go_at_call 35; refine Calls.quiet_of_same (HSL2.out _)))
  have H7 := Lib.hid (H6.out.below (GR.out.star GX.out) (below_drewN (Below.refl _ _) nq))
  clear H6 b0 b1 b2 b3 b4 b5 b6 b7 bz e0 e2 e3 e12 e14 ez
  generalize w6.drewN nq = w7 at *
  go_wp2_with fail
  refine (Stp.lift (Lifts.left GX.out HRL.out) H7.out).mono ?_; rintro e w8 ⟨rfl, h8⟩
  have H8 := Lib.hid h8.fst
  obtain ⟨lv8, hR8⟩ := RBM.cells h8.fst
  have f2 := hR8.c2
  have f14 := hR8.c14
  have fz := hR8.fz
  clear h8 hR8 H7 HRL
  go_wp2_with fail
  refine (HVO.out _).mono ?_; rintro e w9 ⟨rfl, rfl⟩
  have HF := Lib.hid (HSET.out _ _ _ ov H8.out)
  cases ov
  all_goals
    go_wp2_with fail
    refine bodyPost_ret (v := _) (by simp [results, Try.results21, go_sem]; rfl) rfl ?_
    exact ⟨by rw [HRS.out]; rfl, HF.out⟩
set_option maxHeartbeats 8000000 in
set_option maxRecDepth 100000 in
theorem rbStep_done (r y cells : Nat) (l : List Acc) (hlen : l.length ≤ 3000000000000) (d : BD) (hd : BDOk d) (k : Nat) (h9 : 9 ≤ k) (hkn : k ≠ d.W.length + 10) (L : List Int) (hL : ∀ x ∈ L, I64 x) (hLl : L.length ≤ 3000000000000) (sn : Bool) (th : Int) (hc : ∀ z ∈ d.W, z.1 < (cells : Int)) (hkN : k = d.W.length + 9) (kn me hd2 : Bool) (sp ak ai aj : Int) (hp : lookP d.n (RepB d.n d.mu d.st d.s L) = (true, kn, me, hd2, sp, ak, ai, aj)) (hks : kn = true ∨ sn = true) :
    Lifts Try.prog 21 #[.pointer (some ⟨y, 0, none⟩), .pointer (some ⟨r, 0, none⟩), .int .i64 th] (RBM r y d.n cells l d k L sn) (RBM r y d.n cells (l ++ [stAcc th 2 (slotZ d.st d.n) 0 (headZ d.st true)]) d (k + 1) L sn) (.returned (.int .i64 3)) := by
  have HRL := Lib.hid (RBM.load (y := y) (d := d) (k := k) (L := L) (sn := sn) (rstore_in r d.n cells l hlen th 2 (slotZ d.st d.n) 0 (headZ d.st true) (.inr (.inl ⟨rfl, slotZ_lt d.st d.n (by have := hd.n; omega) (by have := hd.n; omega), rfl⟩))))
  have HSET : Hid (∀ w w1 F v, v = ((k + 1 : Nat) : Int) → Stp w w1 F (RBM r y d.n cells (l ++ [stAcc th 2 (slotZ d.st d.n) 0 (headZ d.st true)]) d k L sn) → Stp w (w1.setCell ⟨y, 12, none⟩ (.int .i64 v)) F (RBM r y d.n cells (l ++ [stAcc th 2 (slotZ d.st d.n) 0 (headZ d.st true)]) d (k + 1) L sn)) := fun w w1 F v hv h => by
    subst hv
    exact h.move (Moves.right (RMemH.good _ _ _ _) (Moves.right (RowH.good _ _) (LstH.set11 (f' := rbC d (k + 1) sn) 12 (.int .i64 ((k + 1 : Nat) : Int)) (fun _ => rfl))))
  have HH := Lib.hid (fun w => refHead_any d.st true w)
  have HB1 : Hid ((d.W.length : Int) + 9 + 1 = ((k + 1 : Nat) : Int)) := by show _ = _; omega
  have HB2 : Hid ((d.W.length : Int) + 10 = ((k + 1 : Nat) : Int)) := by show _ = _; omega
  rintro w F hO
  have hOv := rbOver_any y d hd k L sn
  rw [show (k == d.W.length + 10) = false by simpa using hkn] at hOv
  have HA := Lib.hid (fun w1 (h : Stp w w1 F (RBM r y d.n cells l d k L sn)) => Stp.look (RBM.good _ _ _ _ _ _ _ _ _) (Looks.right (A := RMemH r d.n cells l) hOv) h)
  have HL := Lib.hid (fun w1 (h : Stp w w1 F (RBM r y d.n cells l d k L sn)) => Stp.look (RBM.good _ _ _ _ _ _ _ _ _) (rbLacks_any y r d.n cells l d hd k L sn rfl hc) h)
  have HLK := Lib.hid (fun w1 (h : Stp w w1 F (RBM r y d.n cells l d k L sn)) => Stp.look (RBM.good _ _ _ _ _ _ _ _ _) (Looks.right (A := RMemH r d.n cells l) (rbLooks_any y d hd k L sn hL hLl)) h)
  rw [hp] at HLK
  have HSL := Lib.hid (fun w => (refSlot_any d.st d.n w).mono fun _ _ h => (⟨h.1, h.2.symm⟩ : _ = _ ∧ _ = _))
  have HS := Lib.hid (Stp.refl hO)
  have h9i : (9 : Int) ≤ k := by omega
  have h8n : ((k : Int) == 8) = false := by simp; omega
  have HDS : Hid (1 ≤ d.st ∧ d.st ≤ 1099511627776) := hd.st
  have HDN : Hid (1 ≤ d.n ∧ d.n ≤ 16) := hd.n
  have HDL : Hid (d.W.length ≤ 24) := hd.len
  clear hO
  go_enter Try.func21, Try.ntmps21
  go_wp2_with fail
  refine (HA.out _ HS.out).mono ?_; rintro e w2 ⟨rfl, h2⟩
  go_wp2_with fail
  refine (HL.out _ h2).mono ?_; rintro e w3 ⟨rfl, h3⟩
  have H3 := Lib.hid h3
  obtain ⟨lv, hR⟩ := RBM.cells h3
  have c0 := hR.c0
  have c2 := hR.c2
  have c12 := hR.c12
  have fz := hR.fz
  clear h2 h3 HA HL HS hR
  go_wp2_with fail
  go_quiet ((go_at_call 35; refine Calls.quiet_of_same (HSL.out _)))
  have H4 := Lib.hid (H3.out.below (RBM.good _ _ _ _ _ _ _ _ _) (below_drewN (Below.refl _ _) nq))
  obtain ⟨lv4, hR4⟩ := RBM.cells H4.out
  have k12 := hR4.c12
  have kz := hR4.fz
  generalize w3.drewN nq = w4 at *
  clear hR4 c0 c2 c12 fz H3
  go_wp2_with fail
  refine (HLK.out _ H4.out).mono ?_; rintro e w5 ⟨rfl, h5⟩
  have GX := Lib.hid (BlkH.good w5.heap.size #[.bool true, .bool kn, .bool me, .bool hd2, .int .i64 sp, .int .i64 ak, .int .i64 ai, .int .i64 aj] 99)
  have GR := Lib.hid (RBM.good r y d.n cells l d k L sn)
  have H5 := Lib.hid (h5.box GR.out #[.bool true, .bool kn, .bool me, .bool hd2, .int .i64 sp, .int .i64 ak, .int .i64 ai, .int .i64 aj] 99)
  obtain ⟨b0, b1, b2, b3, b4, b5, b6, b7, bz⟩ := look_cells H5.out.has.right.blk
  obtain ⟨lv5, hR5⟩ := RBM.cells H5.out.fst
  have e0 := hR5.c0
  have e2 := hR5.c2
  have e3 := hR5.c3
  have e12 := hR5.c12
  have e14 := hR5.c14
  have ez := hR5.fz
  clear h5 HLK H4 hR5 k12 kz
  unfold lookV
  obtain ⟨hst1, hst2⟩ := HDS.out
  obtain ⟨hdn1, hdn2⟩ := HDN.out
  have hNl := HDL.out
  have hkNi : (k : Int) = (d.W.length : Int) + 9 := by omega
  have hrow5 := H5.out.has.left.right.left.choose_spec.1
  obtain ⟨ra, rc, hlv⟩ := ownAt_form hrow5
  have HLV := Lib.hid hlv
  rw [hlv] at e3
  rw [hkNi] at e12
  clear hlv hrow5
  obtain ⟨N, hN⟩ : ∃ N, d.W.length = N := ⟨_, rfl⟩
  have HN := Lib.hid hN
  rw [hN] at HB1 HB2
  rw [hN] at e3 e12 hkNi hNl
  clear hN h9 hkn hkN
  go_wp2_with fail
  go_quiet (fail)
  have H6 := Lib.hid (H5.out.below (GR.out.star GX.out) (below_drewN (Below.refl _ _) nq))
  clear H5 b0 b1 b2 b3 b4 b5 b6 b7 bz e0 e2 e3 e12 e14 ez
  generalize (w5.alloc _).drewN nq = w6 at *
  obtain ⟨b0, b1, b2, b3, b4, b5, b6, b7, bz⟩ := look_cells H6.out.has.right.blk
  obtain ⟨lv6, hR6⟩ := RBM.cells H6.out.fst
  have e0 := hR6.c0
  have e2 := hR6.c2
  have e3 := hR6.c3
  have e12 := hR6.c12
  have e14 := hR6.c14
  have ez := hR6.fz
  clear hR6
  rw [HLV.out, HN.out] at e3
  rw [hkNi] at e12
  have hks2 : kn = true ∨ (kn = false ∧ sn = true) := by revert hks; cases kn <;> cases sn <;> simp
  clear hks
  rcases hks2 with rfl | ⟨rfl, rfl⟩
  all_goals
    go_wp2_with fail
    refine (HH.out _).mono ?_; rintro e w7 ⟨rfl, rfl⟩
    go_wp2_with fail
    refine (Stp.lift (Lifts.left GX.out HRL.out) H6.out).mono ?_; rintro e w8 ⟨rfl, h8⟩
    have H8 := Lib.hid h8.fst
    obtain ⟨lv8, hR8⟩ := RBM.cells h8.fst
    have f12 := hR8.c12
    rw [hkNi] at f12
    have fz := hR8.fz
    clear h8 hR8 H6 HRL e0 e2 e3 e12 e14 ez b0 b1 b2 b3 b4 b5 b6 b7 bz
    go_wp2_with fail
    refine bodyPost_ret (v := _) (by simp [results, Try.results21, go_sem]; rfl) rfl ?_
    first
    | exact ⟨rfl, HSET.out _ _ _ _ HB2.out H8.out⟩
    | exact ⟨rfl, HSET.out _ _ _ _ HB1.out H8.out⟩
end Go.Proofs.Ytlmnljijpgpmiaa
namespace Go.Proofs.Ytlmnljijpgpmiaa
open Go.RowKit
set_option linter.unusedVariables false
/-- How the two machines stand to one another. -/
def BRl (n : Nat) (mu : Bool) (st : Int) (s : Nat → Int) (W : List (Int × Int)) (b : BK) (k : Nat) (L : List Int) (sn : Bool) : Prop :=
  (b.nx = 1 ∧ k = b.laid ∧ b.laid ≤ 8 ∧ L = [] ∧ sn = false ∧ b.left = W.length ∧ b.known = knK n mu st ∧ b.word = 0) ∨
  ((b.nx = 2 ∨ b.nx = 3 ∨ b.nx = 4) ∧ k = 9 ∧ sn = false ∧ b.left = W.length ∧ b.laid = 8 ∧ b.known = false ∧ RepB n mu st s L = { b with left := 1 }) ∨
  ((b.nx = 5 ∨ b.nx = 6 ∨ b.nx = 7) ∧ b.left ≤ W.length ∧ k = 9 + (W.length - b.left) ∧ b.nx = (rdyK b).nx ∧ (RepB n mu st s L).nx = 5 ∧ b.known = ((RepB n mu st s L).known || sn) ∧ (sn = true → b.left = 0)) ∨
  (b.nx = 0 ∧ k = W.length + 10 ∧ b.left = 0)
theorem BRl.new (n : Nat) (mu : Bool) (st : Int) (s : Nat → Int) (W : List (Int × Int)) : BRl n mu st s W (newK n mu st W) 0 [] false := .inl ⟨rfl, rfl, Nat.zero_le _, rfl, rfl, rfl, rfl, rfl⟩
theorem BRl.left {n : Nat} {mu : Bool} {st : Int} {s : Nat → Int} {W : List (Int × Int)} {b : BK} {k : Nat} {L : List Int} {sn : Bool} (h : BRl n mu st s W b k L sn) : b.left = W.length - (k - 9) ∧ k ≤ W.length + 10 := by
  rcases h with ⟨_, h1, h2, _, _, h3, _⟩ | ⟨_, h1, _, h2, _⟩ | ⟨_, h1, h2, _⟩ | ⟨_, h1, h2⟩
  all_goals omega
theorem rdy_alike {n : Nat} {mu : Bool} {st : Int} {s : Nat → Int} {W : List (Int × Int)} {b : BK} {k : Nat} {L : List Int} {sn : Bool} (h1 : b.left ≤ W.length) (h2 : k = 9 + (W.length - b.left)) (h3 : (RepB n mu st s L).nx = 5) (h4 : b.known = ((RepB n mu st s L).known || sn)) (h5 : sn = true → b.left = 0) : BRl n mu st s W (rdyK b) k L sn :=
  .inr (.inr (.inl ⟨rdyK_nx b, h1, h2, rfl, h3, h4, h5⟩))
theorem wdgK_left2 (n : Nat) (st : Int) (s : Nat → Int) (b : BK) (k : Nat) : (wdgK n st s b k).left = b.left ∧ (wdgK n st s b k).laid = b.laid := by
  unfold wdgK oldK rdyK
  split
  · exact ⟨rfl, rfl⟩
  · split <;> exact ⟨rfl, rfl⟩
theorem stepB_left {n : Nat} {st : Int} {s : Nat → Int} {b : BK} {v : Int} (hx : b.nx = 2 ∨ b.nx = 3 ∨ b.nx = 4) : (stepB11 n st s b v).1.left = b.left ∧ (stepB11 n st s b v).1.laid = b.laid := by
  unfold stepB11
  rw [if_neg (by omega)]
  rcases hx with h | h | h
  · rw [if_pos h]
    split
    · exact ⟨rfl, rfl⟩
    · split
      · exact wdgK_left2 _ _ _ _ _
      · exact ⟨rfl, rfl⟩
  · rw [if_neg (by omega), if_pos h]
    split
    · exact ⟨rfl, rfl⟩
    · exact wdgK_left2 _ _ _ _ _
  · rw [if_neg (by omega), if_neg (by omega), if_pos h]
    split <;> exact ⟨rfl, rfl⟩
/-- Behind a load that was taken up. -/
theorem alike_rel {n : Nat} {mu : Bool} {st : Int} {s : Nat → Int} {W : List (Int × Int)} {b : BK} {L : List Int} {v : Int} (hx : b.nx = 2 ∨ b.nx = 3 ∨ b.nx = 4) (hl : b.left = W.length) (h8 : b.laid = 8) (hk : b.known = false) (hr : RepB n mu st s L = { b with left := 1 }) (hm : (stepB11 n st s b v).2 ≠ 1) : (stepB11 n st s b v).2 = 2 ∧ BRl n mu st s W (stepB11 n st s b v).1 9 (L ++ [v]) false := by
  obtain ⟨h2, ha⟩ := alike_step n st s b v hk hx hm
  refine ⟨h2, ?_⟩
  have hs := RepB_snoc n mu st s L v
  rw [hr] at hs
  obtain ⟨g1, g2⟩ := stepB_left (n := n) (st := st) (s := s) (b := b) (v := v) hx
  rcases ha with ⟨e, hx', hk'⟩ | ⟨e1, e2, e3, e4⟩
  · exact .inr (.inl ⟨hx', rfl, rfl, g1.trans hl, g2.trans h8, hk', hs.trans e⟩)
  · exact .inr (.inr (.inl ⟨e4, by omega, by omega, e2, by rw [hs]; exact e1, by rw [hs, e3]; simp, by simp⟩))
theorem lookP_2 {n : Nat} {b : BK} (h : b.nx = 2) : lookP n { b with left := 1 } = (false, false, false, true, b.sp, 2, slotZ b.sp n, 0) := by
  unfold lookP
  rw [if_neg (by show ¬ b.nx = 5; omega), if_pos (by exact h)]
theorem lookP_3 {n : Nat} {b : BK} (h : b.nx = 3) : lookP n { b with left := 1 } = (false, false, false, false, b.sp, 3, slotZ b.sp n, b.word) := by
  unfold lookP
  rw [if_neg (by show ¬ b.nx = 5; omega), if_neg (by show ¬ b.nx = 2; omega), if_pos (by exact h)]
theorem lookP_4 {n : Nat} {b : BK} (h : b.nx = 4) : lookP n { b with left := 1 } = (false, false, true, true, b.sp, 2, slotZ b.sp n, 0) := by
  unfold lookP
  rw [if_neg (by show ¬ b.nx = 5; omega), if_neg (by show ¬ b.nx = 2; omega), if_neg (by show ¬ b.nx = 3; omega)]
theorem lookP_5 {n : Nat} {b : BK} (h : b.nx = 5) : lookP n b = (true, b.known, false, false, 0, 0, 0, 0) := by
  unfold lookP
  rw [if_pos h]
theorem ref_step (r y cells : Nat) (l : List Acc) (hlen : l.length ≤ 3000000000000) (hok : OkW l) (d : BD) (hd : BDOk d) (hc : ∀ z ∈ d.W, 0 ≤ z.1 ∧ z.1 < (cells : Int)) (b : BK) (hb : BKOk d.n d.st d.s d.W b) (h0 : b.nx ≠ 0) (k : Nat) (L : List Int) (hL : ∀ x ∈ L, I64 x) (hLl : L.length ≤ 3000000000000) (sn : Bool) (h : BRl d.n d.mu d.st d.s d.W b k L sn) (th v : Int)
    (hV : wordOf l (addrK11 d.n d.st d.W b).1 (addrK11 d.n d.st d.W b).2.1 (addrK11 d.n d.st d.W b).2.2 = v) :
    ∃ k' L' sn', BRl d.n d.mu d.st d.s d.W (stepB11 d.n d.st d.s b v).1 k' L' sn' ∧ (∀ x ∈ L', I64 x) ∧ L'.length ≤ L.length + 1 ∧
      Lifts Try.prog 21 #[.pointer (some ⟨y, 0, none⟩), .pointer (some ⟨r, 0, none⟩), .int .i64 th] (RBM r y d.n cells l d k L sn) (RBM r y d.n cells (l ++ [accK d.n d.st d.s d.W b th v]) d k' L' sn') (.returned (.int .i64 (stepB11 d.n d.st d.s b v).2)) := by
  have hc1 : ∀ z ∈ d.W, z.1 < (cells : Int) := fun z hz => (hc z hz).2
  have hc0 : ∀ z ∈ d.W, 0 ≤ z.1 := fun z hz => (hc z hz).1
  obtain ⟨hs1, hs2⟩ := hd.st
  obtain ⟨hn1, hn2⟩ := hd.n
  have hvI : I64 v := by rw [← hV]; exact hok _ _ _
  have hLv : ∀ x ∈ L ++ [v], I64 x := fun x hx => (List.mem_append.1 hx).elim (hL x) (fun h => by rw [List.mem_singleton.1 h]; exact hvI)
  have hLv2 : (L ++ [v]).length ≤ L.length + 1 := by simp
  rcases h with ⟨hx, hk, h8, rfl, rfl, hl, hkn, hwd⟩ | ⟨hx, rfl, rfl, hl, h8, hkn, hr⟩ | ⟨hx, hl, hk, hnx, hr5, hkn, hsn⟩ | ⟨hx, _⟩
  · -- laying
    subst hk
    by_cases hlt : b.laid < 8
    · have e1 : (stepB11 d.n d.st d.s b v) = ({ b with laid := b.laid + 1 }, 2) := by unfold stepB11; rw [if_pos hx, if_pos hlt]
      have e2 : accK d.n d.st d.s d.W b th v = stAcc th 3 (slotZ d.st d.n) (b.laid : Nat) (wrap64 (d.s b.laid)) := by
        unfold accK addrK11 valK; rw [if_pos (.inl hx), if_pos hx, if_pos hlt, if_pos hx, if_pos hlt]
      rw [e1, e2]
      exact ⟨b.laid + 1, [], false, .inl ⟨hx, rfl, by show b.laid + 1 ≤ 8; omega, rfl, rfl, hl, hkn, hwd⟩, hL, by simp, rbStep_word r y cells l hlen d hd b.laid hlt [] false th hc1⟩
    · have e8 : b.laid = 8 := by omega
      have e2 : accK d.n d.st d.s d.W b th v = stAcc th 2 (slotZ d.st d.n) 0 (2 * d.st) := by
        unfold accK addrK11 valK; rw [if_pos (.inl hx), if_pos hx, if_neg hlt, if_pos hx, if_neg hlt]
        unfold headZ wrap64
        simp only [Bool.false_eq_true, if_false]
        congr 1; omega
      have hA := rbStep_head r y cells l hlen d hd b.laid e8 [] false th hc1
      rw [← e2] at hA
      by_cases hkk : b.known = true
      · have e1 : (stepB11 d.n d.st d.s b v) = (rdyK b, 2) := by unfold stepB11; rw [if_pos hx, if_neg hlt, if_pos hkk]
        rw [e1]
        have hrep : RepB d.n d.mu d.st d.s [] = ⟨1, 8, 0, 0, true, 5⟩ := by unfold RepB rep0; rw [if_pos (by rw [← hkn]; exact hkk)]; rfl
        exact ⟨b.laid + 1, [], false, rdy_alike (Nat.le_of_eq hl) (by omega) (by rw [hrep]) (by rw [hrep, hkk]; rfl) (by simp), hL, by simp, hA⟩
      · have hkf : b.known = false := by simpa using hkk
        have e1 : (stepB11 d.n d.st d.s b v) = (oldK d.n d.st b (d.st - 1), 2) := by unfold stepB11; rw [if_pos hx, if_neg hlt, if_neg hkk]
        rw [e1]
        have hrep : RepB d.n d.mu d.st d.s [] = oldK d.n d.st { b with left := 1 } (d.st - 1) := by
          unfold RepB rep0
          rw [if_neg (by rw [← hkn, hkf]; decide)]
          unfold oldK rdyK
          simp only [List.foldl_nil]
          split
          all_goals
            rw [e8, hwd, hkf]
            try rfl
        refine ⟨b.laid + 1, [], false, ?_, hL, by simp, hA⟩
        have ha := alike_old d.n d.st b (d.st - 1) hkf
        rw [← hrep] at ha
        have hll : (oldK d.n d.st b (d.st - 1)).left = b.left ∧ (oldK d.n d.st b (d.st - 1)).laid = b.laid := by unfold oldK rdyK; split <;> exact ⟨rfl, rfl⟩
        rcases ha with ⟨e, hx', hk'⟩ | ⟨f1, f2, f3, f4⟩
        · exact .inr (.inl ⟨hx', by omega, rfl, hll.1.trans hl, hll.2.trans e8, hk', e⟩)
        · exact .inr (.inr (.inl ⟨f4, Nat.le_of_eq (hll.1.trans hl), by have := hll.1.trans hl; show b.laid + 1 = 9 + (d.W.length - (oldK d.n d.st b (d.st - 1)).left); omega, f2, f1, by rw [f3]; simp, by simp⟩))
  · -- looking back
    obtain ⟨hsp, _⟩ := hb.look hx
    have hsl := slotZ_lt b.sp d.n (by omega) (by omega)
    by_cases hm : (stepB11 d.n d.st d.s b v).2 = 1
    · -- it waits
      have hbs : (stepB11 d.n d.st d.s b v).1 = b := by
        revert hm
        unfold stepB11
        rw [if_neg (by omega)]
        rcases hx with h | h | h
        · rw [if_pos h]; split
          · intro hm; exact absurd (show (2 : Int) = 1 from hm) (by decide)
          · split
            · intro hm; exact absurd (show (2 : Int) = 1 from hm) (by decide)
            · intro _; rfl
        · rw [if_neg (by omega), if_pos h]; split
          · intro hm; exact absurd (show (2 : Int) = 1 from hm) (by decide)
          · intro hm; exact absurd (show (2 : Int) = 1 from hm) (by decide)
        · rw [if_neg (by omega), if_neg (by omega), if_pos h]; split
          · intro hm; exact absurd (show (2 : Int) = 1 from hm) (by decide)
          · intro _; rfl
      rw [hbs, hm]
      refine ⟨9, L, false, .inr (.inl ⟨hx, rfl, rfl, hl, h8, hkn, hr⟩), hL, by omega, ?_⟩
      have hx24 : b.nx = 2 ∨ b.nx = 4 := by
        rcases hx with h | h | h
        · exact .inl h
        · exfalso
          revert hm
          unfold stepB11
          rw [if_neg (by omega), if_neg (by omega), if_pos h]
          split
          · intro hm; exact absurd (show (2 : Int) = 1 from hm) (by decide)
          · intro hm; exact absurd (show (2 : Int) = 1 from hm) (by decide)
        · exact .inr h
      have ea : addrK11 d.n d.st d.W b = (2, slotZ b.sp d.n, 0) := by unfold addrK11; rw [if_neg (by omega), if_pos hx24]
      have e2 : accK d.n d.st d.s d.W b th v = ldAcc th 2 (slotZ b.sp d.n) 0 v := by unfold accK; rw [if_neg (by omega), ea]
      rw [ea] at hV
      rw [e2]
      rcases hx24 with h | h
      · refine rbStep_wait r y cells l hlen d hd 9 (by omega) (by omega) L hL hLl false th hc1 false false true b.sp 2 (slotZ b.sp d.n) 0 (by rw [hr]; exact lookP_2 h) (.inr (.inl ⟨rfl, hsl, rfl⟩)) v hV hvI ⟨rfl, ?_⟩
        unfold stepB11 at hm
        rw [if_neg (by omega), if_pos h] at hm
        by_cases ho : overB v b.sp = true
        · rw [if_pos ho] at hm; exact absurd (show (2 : Int) = 1 from hm) (by decide)
        · rw [if_neg ho] at hm
          by_cases hla : laidB v b.sp = true
          · rw [if_pos hla] at hm; exact absurd (show (2 : Int) = 1 from hm) (by decide)
          · exact ⟨by simpa using ho, .inr (by simpa using hla)⟩
      · refine rbStep_wait r y cells l hlen d hd 9 (by omega) (by omega) L hL hLl false th hc1 false true true b.sp 2 (slotZ b.sp d.n) 0 (by rw [hr]; exact lookP_4 h) (.inr (.inl ⟨rfl, hsl, rfl⟩)) v hV hvI ⟨rfl, ?_⟩
        unfold stepB11 at hm
        rw [if_neg (by omega), if_neg (by omega), if_neg (by omega), if_pos h] at hm
        by_cases ho : overB v b.sp = true
        · rw [if_pos ho] at hm; exact absurd (show (2 : Int) = 1 from hm) (by decide)
        · exact ⟨by simpa using ho, .inl rfl⟩
    · obtain ⟨h2, hrel⟩ := alike_rel (W := d.W) hx hl h8 hkn hr hm
      rw [h2]
      refine ⟨9, L ++ [v], false, hrel, hLv, hLv2, ?_⟩
      rcases hx with h | h | h
      · have ea : addrK11 d.n d.st d.W b = (2, slotZ b.sp d.n, 0) := by unfold addrK11; rw [if_neg (by omega), if_pos (.inl h)]
        have e2 : accK d.n d.st d.s d.W b th v = ldAcc th 2 (slotZ b.sp d.n) 0 v := by unfold accK; rw [if_neg (by omega), ea]
        rw [ea] at hV
        rw [e2]
        refine rbStep_load r y cells l hlen d hd 9 (by omega) (by omega) L hL hLl false th hc1 false false true b.sp 2 (slotZ b.sp d.n) 0 (by rw [hr]; exact lookP_2 h) (.inr (.inl ⟨rfl, hsl, rfl⟩)) v hV hvI (.inr ?_)
        unfold stepB11 at hm
        rw [if_neg (by omega), if_pos h] at hm
        by_cases ho : overB v b.sp = true
        · exact .inl ho
        · rw [if_neg ho] at hm
          by_cases hla : laidB v b.sp = true
          · exact .inr ⟨rfl, hla⟩
          · rw [if_neg hla] at hm; exact absurd rfl hm
      · obtain ⟨m, hm8, hwm, _⟩ := hb.word h
        have ea : addrK11 d.n d.st d.W b = (3, slotZ b.sp d.n, b.word) := by unfold addrK11; rw [if_neg (by omega), if_neg (by omega), if_pos h]
        have e2 : accK d.n d.st d.s d.W b th v = ldAcc th 3 (slotZ b.sp d.n) b.word v := by unfold accK; rw [if_neg (by omega), ea]
        rw [ea] at hV
        rw [e2]
        exact rbStep_load r y cells l hlen d hd 9 (by omega) (by omega) L hL hLl false th hc1 false false false b.sp 3 (slotZ b.sp d.n) b.word (by rw [hr]; exact lookP_3 h) (.inr (.inr (.inl ⟨rfl, hsl, by omega, by omega⟩))) v hV hvI (.inl rfl)
      · have ea : addrK11 d.n d.st d.W b = (2, slotZ b.sp d.n, 0) := by unfold addrK11; rw [if_neg (by omega), if_pos (.inr h)]
        have e2 : accK d.n d.st d.s d.W b th v = ldAcc th 2 (slotZ b.sp d.n) 0 v := by unfold accK; rw [if_neg (by omega), ea]
        rw [ea] at hV
        rw [e2]
        refine rbStep_load r y cells l hlen d hd 9 (by omega) (by omega) L hL hLl false th hc1 false true true b.sp 2 (slotZ b.sp d.n) 0 (by rw [hr]; exact lookP_4 h) (.inr (.inl ⟨rfl, hsl, rfl⟩)) v hV hvI (.inr ?_)
        unfold stepB11 at hm
        rw [if_neg (by omega), if_neg (by omega), if_neg (by omega), if_pos h] at hm
        by_cases ho : overB v b.sp = true
        · exact .inl ho
        · rw [if_neg ho] at hm; exact absurd rfl hm
  · -- behind the looks
    have hp := lookP_5 (n := d.n) hr5
    rcases hx with h | h | h
    · have hle := hb.wr h
      have hsf : sn = false := by
        cases sn
        · rfl
        · have := hsn rfl; omega
      obtain ⟨⟨v1, v2⟩, hz⟩ : ∃ z, d.W[d.W.length - b.left]? = some z := ⟨_, List.getElem?_eq_getElem (by omega)⟩
      have hw : wrK d.W b = (v1, v2) := by unfold wrK; rw [hz]; rfl
      have ea : addrK11 d.n d.st d.W b = (4, v1, 0) := by unfold addrK11; rw [if_neg (by omega), if_neg (by omega), if_neg (by omega), if_pos h, hw]
      have e2 : accK d.n d.st d.s d.W b th v = stAcc th 4 v1 0 v2 := by unfold accK; rw [if_pos (by omega), ea]; unfold valK; rw [if_neg (by omega), if_pos h, hw]
      have e1 : (stepB11 d.n d.st d.s b v) = (rdyK { b with left := b.left - 1 }, 2) := by unfold stepB11; rw [if_neg (by omega), if_neg (by omega), if_neg (by omega), if_neg (by omega), if_pos h]
      rw [e1, e2]
      exact ⟨k + 1, L, sn, rdy_alike (by show b.left - 1 ≤ _; omega) (by show k + 1 = 9 + (d.W.length - (b.left - 1)); omega) hr5 hkn (fun e => by rw [hsf] at e; cases e), hL, by omega,
        rbStep_write r y cells l hlen d hd k (by omega) (by omega) L hL hLl sn th hc1 hc0 _ _ _ _ _ _ _ hp (d.W.length - b.left) (by omega) v1 v2 hz⟩
    · have hl0 := hb.no (.inl h)
      have hkf := hb.ord h
      rw [hkf] at hkn
      have hkn2 : (RepB d.n d.mu d.st d.s L).known = false ∧ sn = false := by
        revert hkn
        cases (RepB d.n d.mu d.st d.s L).known <;> cases sn <;> simp
      have ea : addrK11 d.n d.st d.W b = (2, slotZ (d.st - 1) d.n, 0) := by unfold addrK11; rw [if_neg (by omega), if_neg (by omega), if_neg (by omega), if_neg (by omega), if_pos h]
      have e2 : accK d.n d.st d.s d.W b th v = ldAcc th 2 (slotZ (d.st - 1) d.n) 0 v := by unfold accK; rw [if_neg (by omega), ea]
      rw [ea] at hV
      rw [e2]
      rw [hkn2.1] at hp
      have hA := fun ov hov rs hrs => rbStep_order r y cells l hlen d hd k (by omega) (by omega) L hL hLl sn th hc1 (by omega) _ _ _ _ _ _ hp hkn2.2 v hV hvI ov hov rs hrs
      by_cases ho : overB v (d.st - 1) = true
      · have e1 : (stepB11 d.n d.st d.s b v) = (rdyK { b with known := true }, 2) := by unfold stepB11; rw [if_neg (by omega), if_neg (by omega), if_neg (by omega), if_neg (by omega), if_neg (by omega), if_pos h, if_pos ho]
        rw [e1]
        exact ⟨k, L, true, rdy_alike hl hk hr5 (by simp) (fun _ => hl0), hL, by omega, hA true ho 2 rfl⟩
      · have e1 : (stepB11 d.n d.st d.s b v) = (b, 1) := by unfold stepB11; rw [if_neg (by omega), if_neg (by omega), if_neg (by omega), if_neg (by omega), if_neg (by omega), if_pos h, if_neg ho]
        rw [e1]
        have hA2 := hA false (by simpa using ho) 1 rfl
        exact ⟨k, L, false, .inr (.inr (.inl ⟨.inr (.inl h), hl, hk, hnx, hr5, by rw [hkn2.1]; exact hkf, by simp⟩)), hL, by omega, hA2⟩
    · have hl0 := hb.no (.inr (.inl h))
      have hkt := hb.fin (.inl h)
      have e2 : accK d.n d.st d.s d.W b th v = stAcc th 2 (slotZ d.st d.n) 0 (headZ d.st true) := by
        unfold accK; rw [if_pos (by omega)]
        unfold addrK11 valK
        rw [if_neg (by omega), if_neg (by omega), if_neg (by omega), if_neg (by omega), if_neg (by omega), if_neg (by omega), if_neg (by omega)]
      have e1 : (stepB11 d.n d.st d.s b v) = ({ b with nx := 0 }, 3) := by unfold stepB11; rw [if_neg (by omega), if_neg (by omega), if_neg (by omega), if_neg (by omega), if_neg (by omega), if_neg (by omega)]
      rw [e1, e2]
      rw [hkt] at hkn
      have hks : (RepB d.n d.mu d.st d.s L).known = true ∨ sn = true := by
        revert hkn
        cases (RepB d.n d.mu d.st d.s L).known <;> cases sn <;> simp
      exact ⟨k + 1, L, sn, .inr (.inr (.inr ⟨rfl, by omega, hl0⟩)), hL, by omega,
        rbStep_done r y cells l hlen d hd k (by omega) (by omega) L hL hLl sn th hc1 (by omega) _ _ _ _ _ _ _ hp hks⟩
  · exact absurd hx h0
end Go.Proofs.Ytlmnljijpgpmiaa
namespace Go.Proofs.Ytlmnljijpgpmiaa
open Go.RowKit
set_option linter.unusedVariables false
theorem Looks.lifts11 {P : Program} {f : FuncId} {args : Array Value} {O : HP} {v : Ending} (g : Good O) (h : Looks P f args O v) : Lifts P f args O O v := by
  intro w F hO
  refine (h w F hO).mono ?_
  rintro e w' ⟨rfl, hb⟩
  exact ⟨rfl, Stp.calm g hO hb⟩
theorem bak_both (p x r y ring cells : Nat) (n : Nat) (hn : 1 ≤ n ∧ n ≤ 16) (st : Int) (hst : 1 ≤ st ∧ st ≤ 1099511627776) (mu : Bool) (W : List (Int × Int)) (hW : wOk W) (hWv : ∀ z ∈ W, I64 z.2) (hlW : W.length ≤ 24) (lv lvr : Value) (l : List Acc) (hlen : l.length ≤ 3000000000000) (hok : OkW l) (b : BK) (hb : BKOk n st (ofS (W.map Prod.fst)) W b) (k : Nat) (L : List Int) (sn : Bool) (h : BRl n mu st (ofS (W.map Prod.fst)) W b k L sn) (hL : ∀ z ∈ L, I64 z) (hLl : L.length ≤ l.length) (th : Int) :
    ∃ l' b' k' L' sn' kd q, BKOk n st (ofS (W.map Prod.fst)) W b' ∧ BRl n mu st (ofS (W.map Prod.fst)) W b' k' L' sn' ∧ OkW l' ∧ l'.length ≤ l.length + 1 ∧ (∀ z ∈ L', I64 z) ∧ L'.length ≤ l'.length ∧ ((kd = 0 ∧ q = false) ∨ ((kd = 1 ∨ kd = 2 ∨ kd = 3) ∧ q = true)) ∧
      Lifts Try.prog 11 #[.pointer (some ⟨x, 0, none⟩), .pointer (some ⟨p, 0, none⟩), .int .i64 th] (KBo p x ring cells (mkD n st mu lv W) l b) (KBo p x ring cells (mkD n st mu lv W) l' b') (.returned (ansV kd 0 0 q)) ∧
      Lifts Try.prog 21 #[.pointer (some ⟨y, 0, none⟩), .pointer (some ⟨r, 0, none⟩), .int .i64 th] (RBM r y ring cells l (mkD n st mu lvr W) k L sn) (RBM r y ring cells l' (mkD n st mu lvr W) k' L' sn') (.returned (.int .i64 kd)) := by
  have hdA : BDOk (mkD n st mu lv W) := ⟨hn, hst, hlW, ofS_wds _⟩
  have hdB : BDOk (mkD n st mu lvr W) := ⟨hn, hst, hlW, ofS_wds _⟩
  by_cases h0 : b.nx = 0
  · have hk : k = W.length + 10 := by
      rcases h with ⟨h, _⟩ | ⟨h, _⟩ | ⟨h, _⟩ | ⟨_, h, _⟩
      · omega
      · omega
      · omega
      · exact h
    exact ⟨l, b, k, L, sn, 0, false, hb, h, hok, by omega, hL, hLl, .inl ⟨rfl, rfl⟩, Looks.lifts11 (KBo.good _ _ _ _ _ _ _) (bakStep_nil p x ring cells _ l b th h0),
      rbStep_none r y ring cells l _ hdB k L sn th (.inl hk)⟩
  · by_cases hfit : ring = n ∧ ∀ z ∈ W, z.1 < (cells : Int)
    · obtain ⟨rfl, hc⟩ := hfit
      have hc2 : ∀ z ∈ W, 0 ≤ z.1 ∧ z.1 < (cells : Int) := fun z hz => ⟨(hW z hz).1, hc z hz⟩
      have hm : (mkD ring st mu lv W).W.length = 0 ∨ (mkD ring st mu lv W).most < cells := by
        by_cases hz : W.length = 0
        · exact .inl hz
        · right
          obtain ⟨z, hz⟩ : ∃ z, z ∈ W := ⟨W[0]'(by omega), List.getElem_mem _⟩
          have := hc2 z hz
          exact mostZ_lt hc 0 (by omega)
      obtain ⟨k', L', sn', g1, g2, g3, g4⟩ := ref_step r y cells l (by omega) hok (mkD ring st mu lvr W) hdB hc2 b hb h0 k L hL (by omega) sn h th _ rfl
      have hA := bakStep_any p x cells (mkD ring st mu lv W) hdA l (by omega) b hb h0 hm hc2 th _ (hok _ _ _) rfl
      refine ⟨_, _, k', L', sn', _, true, hb.step _, g1, wordOf_okw hok hb h0 hWv th _, by simp, g2, by simp; omega, .inr ⟨?_, rfl⟩, hA, g4⟩
      generalize wordOf l _ _ _ = v
      show (stepB11 ring st (ofS (W.map Prod.fst)) b v).2 = 1 ∨ (stepB11 ring st (ofS (W.map Prod.fst)) b v).2 = 2 ∨ (stepB11 ring st (ofS (W.map Prod.fst)) b v).2 = 3
      unfold stepB11
      repeat' split
      all_goals simp
    · have hno : ring ≠ n ∨ (W ≠ [] ∧ (cells : Int) ≤ mostZ W) := by
        by_cases hr : ring = n
        · right
          have : ∃ z ∈ W, (cells : Int) ≤ z.1 := by
            apply Classical.byContradiction
            intro h3
            exact hfit ⟨hr, fun z hz => by
              by_cases h : z.1 < (cells : Int)
              · exact h
              · exact absurd ⟨z, hz, by omega⟩ h3⟩
          obtain ⟨z, hz, hzc⟩ := this
          have := mostZ_mem hz 0
          exact ⟨List.ne_nil_of_mem hz, by show (cells : Int) ≤ W.foldl (fun m x => max m x.1) 0; omega⟩
        · exact .inl hr
      exact ⟨l, b, k, L, sn, 0, false, hb, h, hok, by omega, hL, hLl, .inl ⟨rfl, rfl⟩, Looks.lifts11 (KBo.good _ _ _ _ _ _ _) (bakStep_off p x ring cells (mkD n st mu lv W) l b th h0 hno),
        rbStep_none r y ring cells l _ hdB k L sn th (.inr hfit)⟩
set_option maxHeartbeats 1000000 in
theorem accs11_any (v u : Value) (l : List Acc) (hlen : l.length ≤ 3000000000000) (w : World) (hx : w.ownsRow 0 90 8 v l.length (accCells l)) (hy : w.ownsRow 0 90 8 u l.length (accCells l)) :
    Calls Try.prog 23 #[v, u] w fun e w' => e = .returned (.bool true) ∧ Below w.heap.size w w' := by
  obtain ⟨a, ca, rfl⟩ := ownAt_form hx
  obtain ⟨b, cb, rfl⟩ := ownAt_form hy
  have HX := Lib.hid hx
  have HY := Lib.hid hy
  obtain ⟨n, hn⟩ : ∃ n, l.length = n := ⟨_, rfl⟩
  have HN := Lib.hid hn
  rw [hn] at hlen
  rw [hn]
  clear hx hy hn
  go_enter Try.func23, Try.ntmps23
  go_wp2_with fail
  go_loopw [5] (fun i wr => ∃ k : Nat, k ≤ n ∧ i = .int .i64 k ∧ Hid (Below w.heap.size w wr)) (fun i _ => n - (intOf i).toNat)
  case atStart => exact ⟨0, by omega, rfl, Below.refl _ _⟩
  case round =>
    obtain ⟨k, hk, rfl, HB⟩ := hrel
    by_cases hlt : k < n
    · obtain ⟨⟨th, kd, ak, ai, aj, old, val, yes⟩, hxk⟩ : ∃ x, l[k]? = some x := ⟨_, List.getElem?_eq_getElem (by rw [HN.out]; exact hlt)⟩
      obtain ⟨g, c, he, c0, c1, c2, c3, c4, c5, c6, c7⟩ := rmem_acc (own_calm HX.out HB.out) hxk
      rw [HN.out] at he
      obtain ⟨rfl, rfl⟩ : a = some ⟨g, 0, none⟩ ∧ ca = c := by simp at he; exact ⟨he.1, he.2⟩
      obtain ⟨g2, c', he2, d0, d1, d2, d3, d4, d5, d6, d7⟩ := rmem_acc (own_calm HY.out HB.out) hxk
      rw [HN.out] at he2
      obtain ⟨rfl, rfl⟩ : b = some ⟨g2, 0, none⟩ ∧ cb = c' := by simp at he2; exact ⟨he2.1, he2.2⟩
      have hE := eqAcc th kd ak ai aj old val yes
      clear he he2 hxk
      go_wp2_with fail
      go_quiet (fail)
      go_wp2_with fail
      go_roundw
      case rel => exact ⟨k + 1, by omega, by go_num, below_drewN HB.out _⟩
      case measure => simp [intOf]; omega
    · obtain rfl : k = n := by omega
      go_wp2_with fail
      go_ret
      exact ⟨rfl, HB.out⟩
end Go.Proofs.Ytlmnljijpgpmiaa
