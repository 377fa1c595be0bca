/- Layer 10: the walk of CommitSoon. -/
import Derived.Test.YtojkeahffabifaaW10
import Derived.Test.YtojkeahffabifaaC10f
import Derived.Test.YtojkeahffabifaaRT
import Derived.StillTailTactics
namespace Go.Proofs.Ytojkeahffabifaa
open Go.RowKit
set_option linter.unusedVariables false
/-- A ring all of which is complete, an empty entry later. -/
theorem soon_round {n cells : Nat} (hs : 1 ≤ n) (hc : 0 < cells) {g : GS} {l : List Acc} {i : Nat} (he : g.es.length = i) (hd : g.done = i) (hl : g.laid = i) :
    (actG n cells (actG n cells g l 0 []).1 (actG n cells g l 0 []).2 4 []).1.es.length = i + 1 ∧ (actG n cells (actG n cells g l 0 []).1 (actG n cells g l 0 []).2 4 []).1.done = i + 1 ∧ (actG n cells (actG n cells g l 0 []).1 (actG n cells g l 0 []).2 4 []).1.laid = i + 1 := by
  obtain ⟨es, la, dn⟩ := g
  simp only at he hd hl
  subst he hd hl
  have h0 : actG n cells ⟨es, es.length, es.length⟩ l 0 [] = (⟨es ++ [⟨[], sigW [], 0⟩], es.length, es.length⟩, l ++ [stAcc (-1) 1 0 0 ((es.length + 1 : Nat) : Int)]) := by
    unfold actG
    rw [if_pos (by decide)]
    unfold pubG
    rw [if_pos ⟨by simp only; omega, hc⟩]
  rw [h0]
  generalize sigW [] = sg
  generalize l ++ [stAcc (-1) 1 0 0 ((es.length + 1 : Nat) : Int)] = l1
  unfold actG
  rw [if_neg (by decide), if_neg (by decide), if_neg (by decide), if_neg (by decide)]
  simp [allG, layG, backG, endG]
theorem soon_stepK {n : Nat} {fr : Int} {rs : Nat → Int} : stepK n fr rs false ⟨0, fr, 0, 0, 0⟩ fr = (⟨4, fr, fr, 0, 0⟩, 3, 0) := by
  unfold stepK
  rw [if_pos rfl, if_pos (.inr (Int.le_refl _))]
theorem soon_spent {p gp x n cells : Nat} {l : List Acc} {g : GS} {last fr : Int} {rs : Nat → Int} {mu : Bool} (hn1 : 1 ≤ n) (hn2 : n ≤ 16) (hrs : Wds rs) (hf : 0 ≤ fr) (hfm : fr ≤ 1000000) (ho : GInv n cells g l) (hfe : (g.es.length : Int) = fr) (hlen : l.length ≤ 1000000) (hsp : last ≤ fr) : Lifts Try.prog 12 #[.pointer (some ⟨x, 0, none⟩), .pointer (some ⟨p, 0, none⟩), .int .i64 1] (ComO p gp x n cells l g last fr rs mu ⟨0, 0, 0, ⟨0, fr, 0, 0, 0⟩⟩) (ComO p gp x n cells (l ++ [ldAcc 1 1 0 0 fr]) g last fr rs mu ⟨4, fr, 0, ⟨4, fr, fr, 0, 0⟩⟩) (.returned (ansV 4 6 0 true)) := by
  have hw : wordOf l 1 0 0 = fr := ho.newest.trans hfe
  have hI : I64 fr := ⟨by omega, by omega⟩
  refine ExH.lift fun xc => ?_
  have hL := chkStep_go p xc n cells l (by omega) hn1 hn2 fr hf rs hrs false ⟨0, fr, 0, 0, 0⟩ 1 (.inl (.inl rfl)) 1 0 0 rfl fr hw hI _ 3 0 soon_stepK
  exact ExH.to xc (lift_swap2 (GrowH.good gp n g) (comStep_checks p x xc n cells l last fr rs mu 0 0 0 ⟨0, fr, 0, 0, 0⟩ 1 rfl _ (KStep.good _ _ _ _ _ _ _ _ _ _ _ _ _ _) 4 6 true (comChecks_spent p x xc n cells l _ last fr rs mu 0 0 0 ⟨0, fr, 0, 0, 0⟩ ⟨4, fr, fr, 0, 0⟩ 1 0 true rfl hI (.inr hsp) hL)))
theorem soon_first {p gp x n cells : Nat} {l : List Acc} {g : GS} {last fr : Int} {rs : Nat → Int} {mu : Bool} (hn1 : 1 ≤ n) (hn2 : n ≤ 16) (hrs : Wds rs) (hf : 0 ≤ fr) (hfm : fr ≤ 1000000) (ho : GInv n cells g l) (hfe : (g.es.length : Int) = fr) (hlen : l.length ≤ 1000000) (hsp : fr < last) (t : Int) (ht : t = if needB mu fr = true then 1 else 2) : Lifts Try.prog 12 #[.pointer (some ⟨x, 0, none⟩), .pointer (some ⟨p, 0, none⟩), .int .i64 1] (ComO p gp x n cells l g last fr rs mu ⟨0, 0, 0, ⟨0, fr, 0, 0, 0⟩⟩) (ComO p gp x n cells (l ++ [ldAcc 1 1 0 0 fr]) g last fr rs mu ⟨t, fr, 0, ⟨4, fr, fr, 0, 0⟩⟩) (.returned (ansV 2 0 0 true)) := by
  have hw : wordOf l 1 0 0 = fr := ho.newest.trans hfe
  have hI : I64 fr := ⟨by omega, by omega⟩
  refine ExH.lift fun xc => ?_
  have hL := chkStep_go p xc n cells l (by omega) hn1 hn2 fr hf rs hrs false ⟨0, fr, 0, 0, 0⟩ 1 (.inl (.inl rfl)) 1 0 0 rfl fr hw hI _ 3 0 soon_stepK
  exact ExH.to xc (lift_swap2 (GrowH.good gp n g) (comStep_checks p x xc n cells l last fr rs mu 0 0 0 ⟨0, fr, 0, 0, 0⟩ 1 rfl _ (KStep.good _ _ _ _ _ _ _ _ _ _ _ _ _ _) 2 0 true (comChecks_go p x xc n cells l _ last fr rs mu 0 0 0 ⟨0, fr, 0, 0, 0⟩ ⟨4, fr, fr, 0, 0⟩ 1 0 true rfl hI (by simp only; omega) t ht hL)))
theorem soon_look {p gp x n cells : Nat} {l : List Acc} {g : GS} {last fr : Int} {rs : Nat → Int} {mu : Bool} (hn1 : 1 ≤ n) (hn2 : n ≤ 16) (hrs : Wds rs) (hf : 0 ≤ fr) (hfm : fr ≤ 1000000) (ho : GInv n cells g l) (hfe : (g.es.length : Int) = fr) (hlen : l.length ≤ 1000000) (s : CS) (hd : g.done = g.es.length) (hnb : needB mu fr = true) (hns : ¬ sharesG g.es fr fr rs) : Lifts Try.prog 12 #[.pointer (some ⟨x, 0, none⟩), .pointer (some ⟨p, 0, none⟩), .int .i64 1] (ComO p gp x n cells l g last fr rs mu ⟨1, fr, 0, s⟩) (ComO p gp x n cells (l ++ [ldAcc 1 2 (slotZ (lookZ mu fr) n) 0 (wordOf l 2 (slotZ (lookZ mu fr) n) 0)]) g last fr rs mu ⟨2, fr, 0, s⟩) (.returned (ansV 2 0 0 true)) := by
  have hR := MSeen.look ho hn1 hn2 (fr := fr) (rs := rs) (last := fr + 1) (mu := mu) (seen := fr) ⟨hf, by omega, by omega, .inl hns⟩ hnb
  have hdl := ho.dl
  have hll := ho.ll
  have hb : lookB n mu fr (wordOf l 2 (slotZ (lookZ mu fr) n) 0) = true := by
    cases hb : lookB n mu fr (wordOf l 2 (slotZ (lookZ mu fr) n) 0)
    · have := hR.2 hb
      omega
    · rfl
  refine ExH.lift fun xc => ?_
  cases mu
  · exact ExH.to xc (lift_swap2 (GrowH.good gp n g) (comStep_all_go p x xc n cells l last fr rs 1 fr 0 s 1 (by omega) hn1 hn2 hf (by omega) rfl hb))
  · exact ExH.to xc (lift_swap2 (GrowH.good gp n g) (comStep_slot_go p x xc n cells l last fr rs 1 fr 0 s 1 (by omega) hn1 hn2 hf (by omega) rfl hb))
theorem soon_swap {p gp x n cells : Nat} {l : List Acc} {g : GS} {last fr : Int} {rs : Nat → Int} {mu : Bool} (hn1 : 1 ≤ n) (hn2 : n ≤ 16) (hrs : Wds rs) (hf : 0 ≤ fr) (hfm : fr ≤ 1000000) (ho : GInv n cells g l) (hfe : (g.es.length : Int) = fr) (hlen : l.length ≤ 1000000) (s : CS) : Lifts Try.prog 12 #[.pointer (some ⟨x, 0, none⟩), .pointer (some ⟨p, 0, none⟩), .int .i64 1] (ComO p gp x n cells l g last fr rs mu ⟨2, fr, 0, s⟩) (ComO p gp x n cells (l ++ [swAcc 1 1 0 0 fr (fr + 1) true]) g last fr rs mu ⟨3, fr, fr + 1, s⟩) (.returned (ansV 3 0 (fr + 1) true)) := by
  refine ExH.lift fun xc => ?_
  exact ExH.to xc (lift_swap2 (GrowH.good gp n g) (comStep_yes p x xc n cells l last fr rs mu 2 fr 0 s 1 (by omega) hf (by omega) rfl (ho.newest.trans hfe)))
theorem soon_none {p gp x n cells : Nat} {l : List Acc} {g : GS} {last fr : Int} {rs : Nat → Int} {mu : Bool} (s : CS) (stamp : Int) : Lifts Try.prog 12 #[.pointer (some ⟨x, 0, none⟩), .pointer (some ⟨p, 0, none⟩), .int .i64 1] (ComO p gp x n cells l g last fr rs mu ⟨3, fr, stamp, s⟩) (ComO p gp x n cells l g last fr rs mu ⟨3, fr, stamp, s⟩) (.returned (ansV 0 0 0 false)) := by
  refine ExH.lift fun xc => ?_
  exact ExH.to xc (lift_swap2 (GrowH.good gp n g) (comStep_none p x xc n cells l last fr rs mu 3 fr stamp s 1 (by decide)))
theorem grid_none {w : World} (q : Nat → Nat → Int) : Grid w none 0 2 q := .inl rfl
theorem com_makeS {A C D : HP} {w0 w1 w2 : World} (gA : Good A) (h : AtW w0 A w1) (k : AtW w1 (Star C D) w2) : AtW w0 (Star (Star A C) D) w2 := (h.new gA k).imp fun _ h => star_as h
set_option maxHeartbeats 8000000 in
set_option maxRecDepth 100000 in
theorem commitSoon_law {w : World} (raw : Int) (mu : Bool) (many la0 : Int) :
    Calls Try.prog 4 #[.agg #[.int .i64 raw, .bool mu, .int .i64 many, .int .i64 la0]] w fun e w' => e = .returned (.bool true) ∧ Below w.heap.size w w' := by
  have hp := pickZ_range raw 16 (by decide)
  obtain ⟨n, hn⟩ : ∃ n : Nat, 1 + pickZ raw 16 = n := ⟨(1 + pickZ raw 16).toNat, by omega⟩
  have hn1 : 1 ≤ n := by omega
  have hn2 : n ≤ 16 := by omega
  have HP := Lib.hid (pick_any raw 16 (by decide) (by decide))
  generalize pickZ raw 16 = pz at *
  obtain rfl : pz = (n : Int) - 1 := by omega
  have hp2 := pickZ_range la0 60 (by decide)
  have HP2 := Lib.hid (pick_any la0 60 (by decide) (by decide))
  obtain ⟨last, hlast⟩ : ∃ q : Int, 1 + pickZ la0 60 = q := ⟨_, rfl⟩
  generalize pickZ la0 60 = pz at *
  obtain rfl : pz = last - 1 := by omega
  have hla1 : 1 ≤ last := by omega
  have hla2 : last ≤ 1099511627776 := by omega
  have e2 : (1 : Int) + (last - 1) = last := by omega
  have hp3 := pickZ_range many 40 (by decide)
  have HP3 := Lib.hid (pick_any many 40 (by decide) (by decide))
  obtain ⟨k0, hk0⟩ : ∃ k : Nat, pickZ many 40 = k := ⟨(pickZ many 40).toNat, by omega⟩
  have hk40 : k0 < 40 := by omega
  rw [hk0] at HP3
  clear hp2 hlast hp3 hk0
  have HB0 : Hid (∀ a, Below w.heap.size w (w.alloc a)) := fun a => (Below.refl _ _).alloc (Nat.le_refl _) _
  have e0 : (1 : Int) + ((n : Int) - 1) = n := by omega
  have HM := Lib.hid (memNew_any 1 n (by decide) (by decide) hn1 (by omega))
  obtain ⟨rs, hrs⟩ : ∃ rs : Nat → Int, rs = fun j => if j = 0 then 3 else if j = 7 then 1 else 0 := ⟨_, rfl⟩
  have HRS : Hid (Wds rs) := by
    show Wds rs
    rw [hrs]; intro j; simp only; split
    · exact ⟨by decide, by decide⟩
    · split
      · exact ⟨by decide, by decide⟩
      · exact ⟨by decide, by decide⟩
  have e8 : rs 0 = 3 ∧ rs 1 = 0 ∧ rs 2 = 0 ∧ rs 3 = 0 ∧ rs 4 = 0 ∧ rs 5 = 0 ∧ rs 6 = 0 ∧ rs 7 = 1 := by rw [hrs]; simp
  have HC := Lib.hid (fun c5 c6 => comNew_any 0 n 0 last mu c5 c6 k0 rs (by omega) (by omega) (by omega) hla1 hla2)
  obtain ⟨q0, q1, q2, q3, q4, q5, q6, q7⟩ := e8
  rw [q0, q1, q2, q3, q4, q5, q6, q7] at HC
  clear q0 q1 q2 q3 q4 q5 q6 q7 hrs hp hn
  go_enter Try.func4, Try.ntmps4
  go_wp2_with fail
  refine (shown10_any _).mono ?_; rintro e w1 ⟨rfl, hb⟩
  have B1 := Lib.hid ((HB0.out _).trans (hb.mono (by simp)))
  clear hb HB0
  go_wp2_with fail
  refine (HP.out w1).mono ?_; rintro e w' ⟨rfl, rfl⟩
  go_wp2_with fail
  refine (HM.out w1).mono ?_; rintro e w2 ⟨p, rfl, h⟩
  have HA1 : Hid (AtW w1 (MG p w2.heap.size n 1 [] ⟨[], 0, 0⟩) (w2.alloc (.cells #[.int .i64 n, .slice none 0 0, .int .i64 0, .int .i64 0] 35))) := h.new (MemH.good _ _ _ _) (grow_new w2 n)
  clear h HM HP
  go_wp2_with fail
  refine (HP3.out _).mono ?_; rintro e w' ⟨rfl, rfl⟩
  clear HP3
  go_wp2_with fail
  go_loopw [13] (fun i wr => ∃ k : Nat, k ≤ k0 ∧ i = .int .i64 k ∧ Hid (∃ l g, AtW w1 (MG p w2.heap.size n 1 l g) wr ∧ RingOk n 1 g l (2 * k) ∧ g.es.length = k ∧ g.done = k ∧ g.laid = k)) (fun i _ => k0 - (intOf i).toNat)
  case atStart => exact ⟨0, by omega, rfl, [], ⟨[], 0, 0⟩, HA1.out, RingOk.nil _ _, rfl, rfl, rfl⟩
  case round =>
    obtain ⟨k, hk, rfl, HE⟩ := hrel
    clear HA1
    by_cases hlt : k < k0
    · obtain ⟨l, g, g1, g2, g3, g4, g5⟩ := HE.out
      have hI0 : ∀ j k : Nat, (Lit.int .i64 ((fun _ _ : Nat => (0 : Int)) j k)).wf = true := fun _ _ => by kernel_rfl
      have r1 := g2.act hn1 (by decide) (by omega) 0 (fun _ _ => 0) (min 0 4) hI0
      have r2 := r1.1.act hn1 (by decide) (by omega) 4 (fun _ _ => 0) (min 0 4) hI0
      have hS := soon_round (l := l) hn1 (by decide : 0 < 1) g3 g4 g5
      have H2 := Lib.hid (fun (w' : World) (h : AtW w1 (MG p w2.heap.size n 1 (actG n 1 g l 0 (fitZ 1 (fun _ _ => 0) (min 0 4))).2 (actG n 1 g l 0 (fitZ 1 (fun _ _ => 0) (min 0 4))).1) w') => act_at h r1.1 hn1 hn2 (by decide) (by decide) (by omega) 4 none 0 0 (fun _ _ => 0) (by decide) (grid_none _))
      have HF : Hid (RingOk n 1 (actG n 1 (actG n 1 g l 0 (fitZ 1 (fun _ _ => 0) (min 0 4))).1 (actG n 1 g l 0 (fitZ 1 (fun _ _ => 0) (min 0 4))).2 4 (fitZ 1 (fun _ _ => 0) (min 0 4))).1 (actG n 1 (actG n 1 g l 0 (fitZ 1 (fun _ _ => 0) (min 0 4))).1 (actG n 1 g l 0 (fitZ 1 (fun _ _ => 0) (min 0 4))).2 4 (fitZ 1 (fun _ _ => 0) (min 0 4))).2 (2 * (k + 1)) ∧ _) := ⟨r2.1, hS⟩
      have HACT := Lib.hid (act_at g1 g2 hn1 hn2 (by decide) (by decide) (by omega) 0 none 0 0 (fun _ _ => 0) (by decide) (grid_none _))
      clear HE g1 g2 r1 r2 hS hI0
      go_wp2_with fail
      refine HACT.out.mono ?_; rintro e w4 ⟨rfl, h⟩
      have H4 := Lib.hid (H2.out _ h)
      clear h HACT H2
      go_wp2_with fail
      refine H4.out.mono ?_; rintro e w5 ⟨rfl, h⟩
      have H5 : Hid (∃ l g, AtW w1 (MG p w2.heap.size n 1 l g) w5 ∧ RingOk n 1 g l (2 * (k + 1)) ∧ g.es.length = k + 1 ∧ g.done = k + 1 ∧ g.laid = k + 1) := ⟨_, _, h, HF.out.1, HF.out.2⟩
      clear h H4 HF
      go_wp2_with fail
      go_roundw
      case rel => exact ⟨k + 1, by omega, by go_num, H5.out⟩
      case measure => simp [intOf]; omega
    · obtain rfl : k = k0 := by omega
      obtain ⟨l, g, g1, g2, g3, g4, g5⟩ := HE.out
      have G1 := Lib.hid g1
      have hlen : l.length ≤ 10000 := by have := g2.len; omega
      have hll : g.es.length = k ∧ g.done = k ∧ g.laid = k := ⟨g3, g4, g5⟩
      have HLL := Lib.hid hll
      have GI := Lib.hid g2.inv
      have hns : Hid (¬ sharesG g.es k k rs) := by
        rintro ⟨i, e, q1, q2, q3, q4⟩
        omega
      clear HE g1 g2 g3 g4 g5 hll
      go_wp2_with fail
      refine (HP2.out wr).mono ?_; rintro e w' ⟨rfl, rfl⟩
      clear HP2
      go_wp2_with fail
      refine (HC.out _ _ _).mono ?_; rintro e w5 ⟨x, xc, rfl, h⟩
      have G5 : Hid (AtW w1 (ComO p w2.heap.size x n 1 l g last k rs mu ⟨0, 0, 0, ⟨0, k, 0, 0, 0⟩⟩) w5) := (com_makeS (MG.good _ _ _ _ _ _) G1.out h).imp fun _ h => ⟨xc, h⟩
      clear h G1 HC
      have hf : (0 : Int) ≤ (k : Int) := by omega
      have hfe : (g.es.length : Int) = (k : Int) := by have := HLL.out.1; omega
      by_cases hsp : last ≤ (k : Int)
      · as_aux_lemma =>
          have HS1 := Lib.hid ((soon_spent hn1 hn2 HRS.out hf (by omega) GI.out hfe (by omega) hsp).at G5.out)
          clear G5
          go_wp2_with fail
          refine HS1.out.mono ?_; rintro e w6 ⟨rfl, h⟩
          have H6 := Lib.hid (h.box (ComO.good _ _ _ _ _ _ _ _ _ _ _ _) #[.int .i64 4, .int .i64 6, .int .i64 0, .bool true] 51)
          obtain ⟨y0, y1, y2, y3, yz⟩ := four_cells H6.out.has.right.blk
          have HBB := Lib.hid (B1.out.trans (H6.out.below.mono B1.out.size))
          clear h HS1
          unfold ansV
          go_wp2_with fail
          go_ret
          exact ⟨rfl, HBB.out⟩
      · have hsp2 : (k : Int) < last := by omega
        by_cases hz : k = 0
        · cases mu
          · as_aux_lemma =>
              subst hz
              have hnb : needB false ((0 : Nat) : Int) = false := by simp [needB]
              have HS1 := Lib.hid ((soon_first hn1 hn2 HRS.out hf (by omega) GI.out hfe (by omega) hsp2 2 (by rw [hnb]; rfl)).at G5.out)
              clear G5
              go_wp2_with fail
              refine HS1.out.mono ?_; rintro e v0 ⟨rfl, h⟩
              have H6 := Lib.hid (h.box (ComO.good _ _ _ _ _ _ _ _ _ _ _ _) #[.int .i64 2, .int .i64 0, .int .i64 0, .bool true] 51)
              have HS2 := Lib.hid ((Lifts.left (BlkH.good _ _ _) (soon_swap hn1 hn2 HRS.out hf (by omega) (GI.out.ld 1 1 0 0 ((0 : Nat) : Int)) hfe (by simp; omega) ⟨4, ((0 : Nat) : Int), ((0 : Nat) : Int), 0, 0⟩)).at H6.out)
              clear h HS1 H6
              unfold ansV
              go_wp2_with fail
              refine HS2.out.mono ?_; rintro e v1 ⟨rfl, h⟩
              have H7 := Lib.hid (h.box ((ComO.good _ _ _ _ _ _ _ _ _ _ _ _).star (BlkH.good _ _ _)) #[.int .i64 3, .int .i64 0, .int .i64 (((0 : Nat) : Int) + 1), .bool true] 51)
              have HS3 := Lib.hid ((Lifts.left (BlkH.good _ _ _) (Lifts.left (BlkH.good _ _ _) (soon_none ⟨4, ((0 : Nat) : Int), ((0 : Nat) : Int), 0, 0⟩ _))).at H7.out)
              clear h HS2 H7
              unfold ansV
              go_wp2_with fail
              refine HS3.out.mono ?_; rintro e v2 ⟨rfl, h⟩
              have H8 := Lib.hid (h.box (((ComO.good _ _ _ _ _ _ _ _ _ _ _ _).star (BlkH.good _ _ _)).star (BlkH.good _ _ _)) #[.int .i64 0, .int .i64 0, .int .i64 0, .bool false] 51)
              clear h HS3
              unfold ansV
              have HSTA := Lib.hid ((Looks.left (Looks.left (Looks.left (ExH.look fun xc => Looks.right (comStamp_any x xc n last ((0 : Nat) : Int) rs false 3 ((0 : Nat) : Int) (((0 : Nat) : Int) + 1)))))).at ((((ComO.good _ _ _ _ _ _ _ _ _ _ _ _).star (BlkH.good _ _ _)).star (BlkH.good _ _ _)).star (BlkH.good _ _ _)) H8.out)
              rw [if_pos rfl, show (((3 : Int) == 3) = true) from rfl] at HSTA
              clear H8
              go_wp2_with fail
              refine HSTA.out.mono ?_; rintro e v3 ⟨rfl, h⟩
              obtain ⟨a0, a1, a2, a3, az⟩ := four_cells h.has.right.blk
              obtain ⟨b0, b1, b2, b3, bz⟩ := four_cells h.has.left.right.blk
              obtain ⟨c0, c1, c2, c3, cz⟩ := four_cells h.has.left.left.right.blk
              have HBB := Lib.hid (B1.out.trans (h.below.mono B1.out.size))
              clear h HSTA
              go_wp2_with fail
              go_ret
              exact ⟨rfl, HBB.out⟩
          · as_aux_lemma =>
              subst hz
              have hnb : needB true ((0 : Nat) : Int) = true := by simp [needB]
              have HS1 := Lib.hid ((soon_first hn1 hn2 HRS.out hf (by omega) GI.out hfe (by omega) hsp2 1 (by rw [hnb]; rfl)).at G5.out)
              clear G5
              go_wp2_with fail
              refine HS1.out.mono ?_; rintro e v0 ⟨rfl, h⟩
              have H6 := Lib.hid (h.box (ComO.good _ _ _ _ _ _ _ _ _ _ _ _) #[.int .i64 2, .int .i64 0, .int .i64 0, .bool true] 51)
              have HS2 := Lib.hid ((Lifts.left (BlkH.good _ _ _) (soon_look (mu := true) hn1 hn2 HRS.out hf (by omega) (GI.out.ld 1 1 0 0 ((0 : Nat) : Int)) hfe (by simp; omega) ⟨4, ((0 : Nat) : Int), ((0 : Nat) : Int), 0, 0⟩ (by have := HLL.out; omega) hnb hns.out)).at H6.out)
              clear h HS1 H6
              unfold ansV
              go_wp2_with fail
              refine HS2.out.mono ?_; rintro e v1 ⟨rfl, h⟩
              have H7 := Lib.hid (h.box ((ComO.good _ _ _ _ _ _ _ _ _ _ _ _).star (BlkH.good _ _ _)) #[.int .i64 2, .int .i64 0, .int .i64 0, .bool true] 51)
              have HS3 := Lib.hid ((Lifts.left (BlkH.good _ _ _) (Lifts.left (BlkH.good _ _ _) (soon_swap hn1 hn2 HRS.out hf (by omega) ((GI.out.ld 1 1 0 0 ((0 : Nat) : Int)).ld _ _ _ _ _) hfe (by simp; omega) ⟨4, ((0 : Nat) : Int), ((0 : Nat) : Int), 0, 0⟩))).at H7.out)
              clear h HS2 H7
              unfold ansV
              go_wp2_with fail
              refine HS3.out.mono ?_; rintro e v2 ⟨rfl, h⟩
              have H8 := Lib.hid (h.box (((ComO.good _ _ _ _ _ _ _ _ _ _ _ _).star (BlkH.good _ _ _)).star (BlkH.good _ _ _)) #[.int .i64 3, .int .i64 0, .int .i64 (((0 : Nat) : Int) + 1), .bool true] 51)
              clear h HS3
              unfold ansV
              have HSTA := Lib.hid ((Looks.left (Looks.left (Looks.left (ExH.look fun xc => Looks.right (comStamp_any x xc n last ((0 : Nat) : Int) rs true 3 ((0 : Nat) : Int) (((0 : Nat) : Int) + 1)))))).at ((((ComO.good _ _ _ _ _ _ _ _ _ _ _ _).star (BlkH.good _ _ _)).star (BlkH.good _ _ _)).star (BlkH.good _ _ _)) H8.out)
              rw [if_pos rfl, show (((3 : Int) == 3) = true) from rfl] at HSTA
              clear H8
              go_wp2_with fail
              refine HSTA.out.mono ?_; rintro e v3 ⟨rfl, h⟩
              obtain ⟨a0, a1, a2, a3, az⟩ := four_cells h.has.right.blk
              obtain ⟨b0, b1, b2, b3, bz⟩ := four_cells h.has.left.right.blk
              obtain ⟨c0, c1, c2, c3, cz⟩ := four_cells h.has.left.left.right.blk
              have HBB := Lib.hid (B1.out.trans (h.below.mono B1.out.size))
              clear h HSTA
              go_wp2_with fail
              go_ret
              exact ⟨rfl, HBB.out⟩
        · as_aux_lemma =>
            have hk0 : ((k : Int) == 0) = false := by rw [beq_eq_false_iff_ne]; omega
            have hnb : needB mu (k : Int) = true := by simp [needB]; omega
            have HS1 := Lib.hid ((soon_first hn1 hn2 HRS.out hf (by omega) GI.out hfe (by omega) hsp2 1 (by rw [hnb]; rfl)).at G5.out)
            clear G5
            go_wp2_with fail
            refine HS1.out.mono ?_; rintro e v0 ⟨rfl, h⟩
            have H6 := Lib.hid (h.box (ComO.good _ _ _ _ _ _ _ _ _ _ _ _) #[.int .i64 2, .int .i64 0, .int .i64 0, .bool true] 51)
            have HS2 := Lib.hid ((Lifts.left (BlkH.good _ _ _) (soon_look (mu := mu) hn1 hn2 HRS.out hf (by omega) (GI.out.ld 1 1 0 0 (k : Int)) hfe (by simp; omega) ⟨4, k, k, 0, 0⟩ (by have := HLL.out; omega) hnb hns.out)).at H6.out)
            clear h HS1 H6
            unfold ansV
            go_wp2_with fail
            refine HS2.out.mono ?_; rintro e v1 ⟨rfl, h⟩
            have H7 := Lib.hid (h.box ((ComO.good _ _ _ _ _ _ _ _ _ _ _ _).star (BlkH.good _ _ _)) #[.int .i64 2, .int .i64 0, .int .i64 0, .bool true] 51)
            have HS3 := Lib.hid ((Lifts.left (BlkH.good _ _ _) (Lifts.left (BlkH.good _ _ _) (soon_swap hn1 hn2 HRS.out hf (by omega) ((GI.out.ld 1 1 0 0 (k : Int)).ld _ _ _ _ _) hfe (by simp; omega) ⟨4, k, k, 0, 0⟩))).at H7.out)
            clear h HS2 H7
            unfold ansV
            go_wp2_with fail
            refine HS3.out.mono ?_; rintro e v2 ⟨rfl, h⟩
            have H8 := Lib.hid (h.box (((ComO.good _ _ _ _ _ _ _ _ _ _ _ _).star (BlkH.good _ _ _)).star (BlkH.good _ _ _)) #[.int .i64 3, .int .i64 0, .int .i64 ((k : Int) + 1), .bool true] 51)
            clear h HS3
            unfold ansV
            have HSTA := Lib.hid ((Looks.left (Looks.left (Looks.left (ExH.look fun xc => Looks.right (comStamp_any x xc n last k rs mu 3 k ((k : Int) + 1)))))).at ((((ComO.good _ _ _ _ _ _ _ _ _ _ _ _).star (BlkH.good _ _ _)).star (BlkH.good _ _ _)).star (BlkH.good _ _ _)) H8.out)
            rw [if_pos rfl, show (((3 : Int) == 3) = true) from rfl] at HSTA
            clear H8
            go_wp2_with fail
            refine HSTA.out.mono ?_; rintro e v3 ⟨rfl, h⟩
            obtain ⟨a0, a1, a2, a3, az⟩ := four_cells h.has.right.blk
            obtain ⟨b0, b1, b2, b3, bz⟩ := four_cells h.has.left.right.blk
            obtain ⟨c0, c1, c2, c3, cz⟩ := four_cells h.has.left.left.right.blk
            have HBB := Lib.hid (B1.out.trans (h.below.mono B1.out.size))
            clear h HSTA
            go_wp2_with fail
            go_ret
            exact ⟨rfl, HBB.out⟩
end Go.Proofs.Ytojkeahffabifaa
