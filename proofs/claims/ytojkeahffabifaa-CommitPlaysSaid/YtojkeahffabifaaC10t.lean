/- Layer 10: both machines that publish: a step of each; Takes, New, the log, what is told. -/
import Derived.Test.YtojkeahffabifaaC10r
import Derived.Test.YtojkeahffabifaaC10e
namespace Go.Proofs.Ytojkeahffabifaa
open Go.RowKit
set_option linter.unusedVariables false
theorem stepK_seen {n : Nat} {fr : Int} {rs : Nat → Int} {la : Bool} {s : CS} {v : Int} : (stepK n fr rs la s v).1.seen = v ∨ (stepK n fr rs la s v).1.seen = s.seen := by
  unfold stepK
  repeat' split
  all_goals simp
theorem fold_seen {n : Nat} {fr : Int} {rs : Nat → Int} {la : Bool} : ∀ (L : List Int) (p : CS × Int), I64 p.1.seen → (∀ z ∈ L, I64 z) → I64 (L.foldl (repStep n fr rs la) p).1.seen
  | [], p, h, _ => h
  | v :: L, p, h, k => by
    refine fold_seen L _ ?_ fun z hz => k z (List.mem_cons_of_mem _ hz)
    rcases stepK_seen (n := n) (fr := fr) (rs := rs) (la := la) (s := p.1) (v := v) with q | q
    · unfold repStep; simp only; rw [q]; exact k v (List.mem_cons_self ..)
    · unfold repStep; simp only; rw [q]; exact h
theorem rep_seen {n : Nat} {fr : Int} {rs : Nat → Int} {la : Bool} {L : List Int} (h : ∀ z ∈ L, I64 z) : I64 (Rep n fr rs la L).1.seen := fold_seen L _ ⟨by show (-9223372036854775808 : Int) ≤ 0; decide, by show (0 : Int) ≤ 9223372036854775807; decide⟩ h
abbrev KS2 (p x ring n cells : Nat) (l : List Acc) (last fr : Int) (rs : Nat → Int) (mu : Bool) (m : MS) (xc : Nat) : HP := Star (Star (MemH p ring cells l) (ChkH xc n fr rs false m.s)) (ComH x xc n last fr rs mu m.st m.seen m.stamp)
abbrev KE (p x ring n cells : Nat) (l : List Acc) (last fr : Int) (rs : Nat → Int) (mu : Bool) (m : MS) : HP := ExH (KS2 p x ring n cells l last fr rs mu m)
theorem KS2.good (p x ring n cells : Nat) (l : List Acc) (last fr : Int) (rs : Nat → Int) (mu : Bool) (m : MS) (xc : Nat) : Good (KS2 p x ring n cells l last fr rs mu m xc) := ((MemH.good _ _ _ _).star (BlkH.good _ _ _)).star (BlkH.good _ _ _)
theorem KE.good (p x ring n cells : Nat) (l : List Acc) (last fr : Int) (rs : Nat → Int) (mu : Bool) (m : MS) : Good (KE p x ring n cells l last fr rs mu m) := ExH.good fun _ => KS2.good _ _ _ _ _ _ _ _ _ _ _ _
set_option maxHeartbeats 2000000 in
theorem comStep_off (p x xc ring n cells : Nat) (l : List Acc) (last fr : Int) (rs : Nat → Int) (mu : Bool) (m : MS) (th : Int) (hr : ring ≠ n) : Lifts Try.prog 12 #[.pointer (some ⟨x, 0, none⟩), .pointer (some ⟨p, 0, none⟩), .int .i64 th] (KS2 p x ring n cells l last fr rs mu m xc) (KS2 p x ring n cells l last fr rs mu m xc) (.returned (ansV 0 0 0 false)) := by
  rintro w F hO
  have hxl : x < w.heap.size := heap_lt (Stp.refl hO).has.right.blk
  have hne : x ≠ w.heap.size := by omega
  have hne2 : w.heap.size ≠ x := by omega
  have GA := Lib.hid (fun cs => BlkH.good w.heap.size cs 51)
  have GK := Lib.hid (KS2.good p x ring n cells l last fr rs mu m xc)
  have H0 := Lib.hid ((Stp.refl hO).box GK.out #[.int .i64 0, .int .i64 0, .int .i64 0, .bool false] 51)
  have HSZ := Lib.hid (Stp.look (GK.out.star (GA.out _)) (Looks.left (B := BlkH w.heap.size #[.int .i64 0, .int .i64 0, .int .i64 0, .bool false] 51) (Looks.left (B := ComH x xc n last fr rs mu m.st m.seen m.stamp) (Looks.left (B := ChkH xc n fr rs false m.s) (sizes_any p ring cells l)))) H0.out)
  have e1 : ((ring : Int) != (n : Int)) = true := by simp; omega
  clear hO
  go_enter Try.func12, Try.ntmps12
  go_wp2_with fail
  refine HSZ.out.mono ?_; rintro e w2 ⟨rfl, h⟩
  have H2 := Lib.hid h
  have hR := com_cells h.has.left.right.blk
  obtain ⟨r0, r1, r2, r3, rz⟩ := four_cells h.has.right.blk
  have c1 := hR.c1
  have c18 := hR.c18
  have fz := hR.fz
  clear h hR HSZ hr
  go_wp2_with fail
  refine bodyPost_ret (v := _) (by simp [results, Try.results12, go_sem, r0, r1, r2, r3]; rfl) rfl ?_
  exact ⟨rfl, ans_set GK.out H2.out _ _ _ _⟩
/-- Both machines. -/
def CRel (n : Nat) (fr : Int) (rs : Nat → Int) (last : Int) (m : MS) (rdy lkd : Bool) (stp : Int) (ovr : Bool) (sn : Int) (L : List Int) : Prop :=
  (m.st = 0 ∧ rdy = false ∧ ovr = false ∧ stp = 0 ∧ ∃ e, KRel n fr rs false m.s e L) ∨
  (m.st = 1 ∧ rdy = true ∧ lkd = false ∧ ovr = false ∧ stp = 0 ∧ sn = m.seen ∧ 0 ≤ sn ∧ sn < last) ∨
  (m.st = 2 ∧ rdy = true ∧ lkd = true ∧ ovr = false ∧ stp = 0 ∧ sn = m.seen ∧ 0 ≤ sn ∧ sn < last) ∨
  (m.st = 3 ∧ ovr = true ∧ stp = m.stamp ∧ 1 ≤ stp) ∨ (m.st = 4 ∧ ovr = true ∧ stp = 0)
theorem okW_sw0 {l : List Acc} (h : OkW l) (th k i j u v : Int) : OkW (l ++ [swAcc th k i j u v false]) := fun a b c => by rw [wordOf_sw0]; exact h a b c
theorem okW_sw1 {l : List Acc} (h : OkW l) (th k i j u v : Int) (hv : I64 v) : OkW (l ++ [swAcc th k i j u v true]) := fun a b c => by
  rw [wordOf_sw1]
  by_cases hq : a = k ∧ b = i ∧ c = j
  · show I64 (if a = k ∧ b = i ∧ c = j then v else _)
    rw [if_pos hq]; exact hv
  · show I64 (if a = k ∧ b = i ∧ c = j then v else _)
    rw [if_neg hq]; exact h a b c
theorem KRel.nil (n : Nat) (fr : Int) (rs : Nat → Int) (la : Bool) : KRel n fr rs la ⟨0, fr, 0, 0, 0⟩ 0 [] := ⟨rfl, fun k v h => by simp at h, .inl ⟨rfl, rfl⟩, (fun z hz => by cases hz), (fun h => absurd (show (0 : Int) = 5 from h) (by decide))⟩
theorem com_both (p x r y n ring cells : Nat) (hn1 : 1 ≤ n) (hn2 : n ≤ 16) (last fr : Int) (hf : 0 ≤ fr) (hla : last ≤ 1099511627776) (rs : Nat → Int) (hrs : Wds rs) (mu : Bool) (l : List Acc) (hlen : l.length ≤ 3000000000000) (hok : OkW l) (m : MS) (rdy lkd : Bool) (stp : Int) (ovr : Bool) (sn : Int) (L : List Int) (h : CRel n fr rs last m rdy lkd stp ovr sn L) (th : Int) (xc : Nat) :
    ∃ l' m' rdy' lkd' stp' ovr' sn' L' kd er va b, CRel n fr rs last m' rdy' lkd' stp' ovr' sn' L' ∧ OkW l' ∧ l'.length ≤ l.length + 1 ∧ ((kd = 0 ∧ b = false) ∨ ((kd = 1 ∨ kd = 2 ∨ kd = 3 ∨ kd = 4) ∧ b = true)) ∧
      Lifts Try.prog 12 #[.pointer (some ⟨x, 0, none⟩), .pointer (some ⟨p, 0, none⟩), .int .i64 th] (KS2 p x ring n cells l last fr rs mu m xc) (KE p x ring n cells l' last fr rs mu m') (.returned (ansV kd er va b)) ∧
      Lifts Try.prog 22 #[.pointer (some ⟨y, 0, none⟩), .pointer (some ⟨r, 0, none⟩), .int .i64 th] (RKStep r y ring cells l n last mu fr rs rdy lkd stp ovr sn L) (RKStep r y ring cells l' n last mu fr rs rdy' lkd' stp' ovr' sn' L') (.returned (.tuple #[.int .i64 kd, .int .i64 er, .int .i64 va])) := by
  by_cases hr : ring ≠ n
  · exact ⟨l, m, rdy, lkd, stp, ovr, sn, L, 0, 0, 0, false, h, hok, by omega, .inl ⟨rfl, rfl⟩, ExH.to xc (comStep_off p x xc ring n cells l last fr rs mu m th hr), Looks.lifts (RKStep.good _ _ _ _ _ _ _ _ _ _ _ _ _ _ _ _) (rcomStep_none r y n cells l last mu fr rs stp sn L ring rdy lkd ovr th (.inr hr))⟩
  · obtain rfl : ring = n := by omega
    obtain ⟨st, seen, stamp, s⟩ := m
    rcases h with ⟨h0, rfl, rfl, rfl, e0, hK⟩ | ⟨h0, rfl, rfl, rfl, rfl, hsn, h1, h2⟩ | ⟨h0, rfl, rfl, rfl, rfl, hsn, h1, h2⟩ | ⟨h0, rfl, h1, h2⟩ | ⟨h0, rfl, rfl⟩
    all_goals simp only at *
    · obtain ⟨l', s', e', L', kd, er, b, kb, HA, HB⟩ := chk_both 115 (f10 ring last mu fr rs false lkd 0 false sn) p xc r y ring cells hn1 hn2 fr hf rs hrs false (f10_off ring last mu fr rs false lkd 0 false sn) l hlen hok s e0 L hK th
      have ka : (kd = 0 ∧ b = false) ∨ ((kd = 1 ∨ kd = 2 ∨ kd = 3 ∨ kd = 4) ∧ b = true) := kb.ans.imp (fun h => ⟨h.1, h.2.1⟩) id
      by_cases hk4 : kd = 4
      · subst hk4
        exact ⟨l', ⟨4, seen, stamp, s'⟩, false, lkd, 0, true, sn, L', 4, er, 0, b, .inr (.inr (.inr (.inr ⟨rfl, rfl, rfl⟩))), kb.okw, kb.len, ka,
          ExH.to xc (comStep_checks p x xc ring cells l last fr rs mu st seen stamp s th h0 _ (KStep.good _ _ _ _ _ _ _ _ _ _ _ _ _ _) 4 er b (comChecks_fail p x xc ring cells l l' last fr rs mu st seen stamp s s' th er b HA)),
          rcomStep_round r y ring cells l last mu fr rs 0 sn L lkd th _ 4 er 0 (rround_fail r y ring cells l last mu fr rs 0 sn L lkd l' L' th er HB)⟩
      · have her := kb.err hk4
        subst her
        by_cases hk3 : kd = 3
        · subst hk3
          have hd := kb.done.1 rfl
          have hI : I64 s'.seen := by
            have := rep_seen (n := ring) (fr := fr) (rs := rs) (la := false) kb.rel.num
            rw [kb.rel.rep] at this
            exact this
          have hp := kb.rel.rep ▸ planK_4 (size := ring) (e := e') hd.2
          have hll := kb.rel.inv.len hn2
          have hS := rchkStart_yes (T := 115) y ring hn1 hn2 fr hf rs false (f10_off ring last mu fr rs false lkd 0 false sn) L' kb.rel.num (by omega) kb.rel.ok _ _ _ _ _ _ hp
          by_cases hsp : s'.seen < 0 ∨ last ≤ s'.seen
          · exact ⟨l', ⟨4, s'.seen, stamp, s'⟩, false, lkd, 0, true, s'.seen, L', 4, 6, 0, true, .inr (.inr (.inr (.inr ⟨rfl, rfl, rfl⟩))), kb.okw, kb.len, .inr ⟨by simp, rfl⟩,
              ExH.to xc (comStep_checks p x xc ring cells l last fr rs mu st seen stamp s th h0 _ (KStep.good _ _ _ _ _ _ _ _ _ _ _ _ _ _) 4 6 true (comChecks_spent p x xc ring cells l l' last fr rs mu st seen stamp s s' th 0 b hd.2 hI hsp HA)),
              rcomStep_round r y ring cells l last mu fr rs 0 sn L lkd th _ 4 6 0 (rround_spent r y ring cells l last mu fr rs 0 sn L lkd l' L' th _ _ hS hsp HB)⟩
          · have hge : 0 ≤ s'.seen ∧ s'.seen < last := by omega
            have hgo := rround_go r y ring cells l last mu fr rs 0 sn L lkd l' L' th _ _ hS hsp _ rfl HB
            by_cases hnb : needB mu s'.seen = true
            · have hlk : (!mu && decide (s'.seen < 1)) = false := by
                unfold needB at hnb
                cases mu
                · simp at hnb; simp; omega
                · rfl
              rw [hlk] at hgo
              exact ⟨l', ⟨1, s'.seen, stamp, s'⟩, true, false, 0, false, s'.seen, L', 2, 0, 0, true, .inr (.inl ⟨rfl, rfl, rfl, rfl, rfl, rfl, hge.1, hge.2⟩), kb.okw, kb.len, .inr ⟨by simp, rfl⟩,
                ExH.to xc (comStep_checks p x xc ring cells l last fr rs mu st seen stamp s th h0 _ (KStep.good _ _ _ _ _ _ _ _ _ _ _ _ _ _) 2 0 true (comChecks_go p x xc ring cells l l' last fr rs mu st seen stamp s s' th 0 b hd.2 hI hsp 1 (by rw [if_pos hnb]) HA)),
                rcomStep_round r y ring cells l last mu fr rs 0 sn L lkd th _ 2 0 0 hgo⟩
            · have hlk : (!mu && decide (s'.seen < 1)) = true := by
                unfold needB at hnb
                cases mu
                · simp at hnb; simp; omega
                · simp at hnb
              rw [hlk] at hgo
              exact ⟨l', ⟨2, s'.seen, stamp, s'⟩, true, true, 0, false, s'.seen, L', 2, 0, 0, true, .inr (.inr (.inl ⟨rfl, rfl, rfl, rfl, rfl, rfl, hge.1, hge.2⟩)), kb.okw, kb.len, .inr ⟨by simp, rfl⟩,
                ExH.to xc (comStep_checks p x xc ring cells l last fr rs mu st seen stamp s th h0 _ (KStep.good _ _ _ _ _ _ _ _ _ _ _ _ _ _) 2 0 true (comChecks_go p x xc ring cells l l' last fr rs mu st seen stamp s s' th 0 b hd.2 hI hsp 2 (by rw [if_neg hnb]) HA)),
                rcomStep_round r y ring cells l last mu fr rs 0 sn L lkd th _ 2 0 0 hgo⟩
        · subst h0
          exact ⟨l', ⟨0, seen, stamp, s'⟩, false, lkd, 0, false, sn, L', kd, 0, 0, b, .inl ⟨rfl, rfl, rfl, rfl, e', kb.rel⟩, kb.okw, kb.len, ka,
            ExH.to xc (comStep_checks p x xc ring cells l last fr rs mu 0 seen stamp s th rfl _ (KStep.good _ _ _ _ _ _ _ _ _ _ _ _ _ _) kd 0 b (comChecks_on p x xc ring cells l l' last fr rs mu 0 seen stamp s s' th kd 0 b hk3 hk4 HA)),
            rcomStep_round r y ring cells l last mu fr rs 0 sn L lkd th _ kd 0 0 (rround_on r y ring cells l last mu fr rs 0 sn L lkd l' L' th kd 0 hk3 hk4 HB)⟩
    · subst h0
      replace hsn := hsn.symm
      subst hsn
      cases hb : lookB ring mu seen (wordOf l 2 (slotZ (lookZ mu seen) ring) 0)
      · have hw := rcomStep_wait r y ring cells l last mu fr rs 0 seen L th hok (by omega) hn1 hn2 h1 (by omega) hb
        refine ⟨_, ⟨1, seen, stamp, s⟩, true, false, 0, false, seen, L, 1, 0, 0, true, .inr (.inl ⟨rfl, rfl, rfl, rfl, rfl, rfl, h1, h2⟩), okW_ld hok _ _ _ _ _, by simp, .inr ⟨by simp, rfl⟩, ?_, hw⟩
        cases mu
        · exact ExH.to xc (comStep_all_wait p x xc ring cells l last fr rs 1 seen stamp s th (by omega) hn1 hn2 h1 (by omega) rfl hb)
        · exact ExH.to xc (comStep_slot_wait p x xc ring cells l last fr rs 1 seen stamp s th (by omega) hn1 hn2 h1 (by omega) rfl hb)
      · have hw := rcomStep_look r y ring cells l last mu fr rs 0 seen L th hok (by omega) hn1 hn2 h1 (by omega) hb
        refine ⟨_, ⟨2, seen, stamp, s⟩, true, true, 0, false, seen, L, 2, 0, 0, true, .inr (.inr (.inl ⟨rfl, rfl, rfl, rfl, rfl, rfl, h1, h2⟩)), okW_ld hok _ _ _ _ _, by simp, .inr ⟨by simp, rfl⟩, ?_, hw⟩
        cases mu
        · exact ExH.to xc (comStep_all_go p x xc ring cells l last fr rs 1 seen stamp s th (by omega) hn1 hn2 h1 (by omega) rfl hb)
        · exact ExH.to xc (comStep_slot_go p x xc ring cells l last fr rs 1 seen stamp s th (by omega) hn1 hn2 h1 (by omega) rfl hb)
    · subst h0
      replace hsn := hsn.symm
      subst hsn
      by_cases he : wordOf l 1 0 0 = seen
      · exact ⟨_, ⟨3, seen, seen + 1, s⟩, true, true, seen + 1, true, seen, L, 3, 0, seen + 1, true, .inr (.inr (.inr (.inl ⟨rfl, rfl, rfl, by omega⟩))), okW_sw1 hok _ _ _ _ _ _ ⟨by omega, by omega⟩, by simp, .inr ⟨by simp, rfl⟩,
          ExH.to xc (comStep_yes p x xc ring cells l last fr rs mu 2 seen stamp s th (by omega) h1 (by omega) rfl he),
          rcomStep_yes r y ring cells l last mu fr rs 0 seen L th (by omega) h1 (by omega) he⟩
      · exact ⟨_, ⟨0, seen, stamp, ⟨0, fr, 0, 0, 0⟩⟩, false, true, 0, false, seen, [], 2, 0, 0, true, .inl ⟨rfl, rfl, rfl, rfl, 0, KRel.nil _ _ _ _⟩, okW_sw0 hok _ _ _ _ _ _, by simp, .inr ⟨by simp, rfl⟩,
          comStep_no p x xc ring cells l last fr rs mu 2 seen stamp s th (by omega) hn1 hn2 hf h1 (by omega) rfl _ rfl he,
          rcomStep_no r y ring cells l last mu fr rs 0 seen L th (by omega) h1 (by omega) _ rfl he⟩
    · exact ⟨l, ⟨st, seen, stamp, s⟩, rdy, lkd, stp, true, sn, L, 0, 0, 0, false, .inr (.inr (.inr (.inl ⟨h0, rfl, h1, h2⟩))), hok, by omega, .inl ⟨rfl, rfl⟩, ExH.to xc (comStep_none p x xc ring cells l last fr rs mu st seen stamp s th (by omega)), Looks.lifts (RKStep.good _ _ _ _ _ _ _ _ _ _ _ _ _ _ _ _) (rcomStep_none r y ring cells l last mu fr rs stp sn L ring rdy lkd true th (.inl rfl))⟩
    · exact ⟨l, ⟨st, seen, stamp, s⟩, rdy, lkd, 0, true, sn, L, 0, 0, 0, false, .inr (.inr (.inr (.inr ⟨h0, rfl, rfl⟩))), hok, by omega, .inl ⟨rfl, rfl⟩, ExH.to xc (comStep_none p x xc ring cells l last fr rs mu st seen stamp s th (by omega)), Looks.lifts (RKStep.good _ _ _ _ _ _ _ _ _ _ _ _ _ _ _ _) (rcomStep_none r y ring cells l last mu fr rs 0 sn L ring rdy lkd true th (.inl rfl))⟩
set_option maxHeartbeats 1000000 in
theorem accs10_any (v u : Value) (l : List Acc) (hlen : l.length ≤ 3000000000000) (w : World) (hx : w.ownsRow 0 117 8 v l.length (accCells l)) (hy : w.ownsRow 0 117 8 u l.length (accCells l)) :
    Calls Try.prog 24 #[v, u] w fun e w' => e = .returned (.bool true) ∧ Below w.heap.size w w' := by
  obtain ⟨a, ca, rfl⟩ := ownAt_form hx
  obtain ⟨b, cb, rfl⟩ := ownAt_form hy
  have HX := Lib.hid hx
  have HY := Lib.hid hy
  obtain ⟨n, hn⟩ : ∃ n, l.length = n := ⟨_, rfl⟩
  have HN := Lib.hid hn
  rw [hn] at hlen
  rw [hn]
  clear hx hy hn
  go_enter Try.func24, Try.ntmps24
  go_wp2_with fail
  go_loopw [5] (fun i wr => ∃ k : Nat, k ≤ n ∧ i = .int .i64 k ∧ Hid (Below w.heap.size w wr)) (fun i _ => n - (intOf i).toNat)
  case atStart => exact ⟨0, by omega, rfl, Below.refl _ _⟩
  case round =>
    obtain ⟨k, hk, rfl, HB⟩ := hrel
    by_cases hlt : k < n
    · obtain ⟨⟨th, kd, ak, ai, aj, old, val, yes⟩, hxk⟩ : ∃ x, l[k]? = some x := ⟨_, List.getElem?_eq_getElem (by rw [HN.out]; exact hlt)⟩
      obtain ⟨g, c, he, c0, c1, c2, c3, c4, c5, c6, c7⟩ := rmem_acc (own_calm HX.out HB.out) hxk
      rw [HN.out] at he
      obtain ⟨rfl, rfl⟩ : a = some ⟨g, 0, none⟩ ∧ ca = c := by simp at he; exact ⟨he.1, he.2⟩
      obtain ⟨g2, c', he2, d0, d1, d2, d3, d4, d5, d6, d7⟩ := rmem_acc (own_calm HY.out HB.out) hxk
      rw [HN.out] at he2
      obtain ⟨rfl, rfl⟩ : b = some ⟨g2, 0, none⟩ ∧ cb = c' := by simp at he2; exact ⟨he2.1, he2.2⟩
      have hE := eqAcc th kd ak ai aj old val yes
      clear he he2 hxk
      go_wp2_with fail
      go_quiet (fail)
      go_wp2_with fail
      go_roundw
      case rel => exact ⟨k + 1, by omega, by go_num, below_drewN HB.out _⟩
      case measure => simp [intOf]; omega
    · obtain rfl : k = n := by omega
      go_wp2_with fail
      go_ret
      exact ⟨rfl, HB.out⟩
set_option maxHeartbeats 1000000 in
theorem tells10_any (x xc y n : Nat) (last fr : Int) (rs : Nat → Int) (mu : Bool) (m : MS) (rdy lkd : Bool) (stp : Int) (ovr : Bool) (sn : Int) (L : List Int) (h : CRel n fr rs last m rdy lkd stp ovr sn L) :
    Looks Try.prog 23 #[.pointer (some ⟨x, 0, none⟩), .pointer (some ⟨y, 0, none⟩)] (Star (ComH x xc n last fr rs mu m.st m.seen m.stamp) (RComH y n last mu fr rs rdy lkd stp ovr sn L)) (.returned (.bool true)) := by
  rintro w F hO
  have hS : (if m.st = 3 then m.stamp else 0) = stp ∧ (m.st == 3) = (stp != 0) := by
    rcases h with ⟨h0, _, _, rfl, _⟩ | ⟨h0, _, _, _, rfl, _⟩ | ⟨h0, _, _, _, rfl, _⟩ | ⟨h0, _, rfl, h2⟩ | ⟨h0, _, rfl⟩
    · simp [h0]
    · simp [h0]
    · simp [h0]
    · simp [h0]; omega
    · simp [h0]
  have hL := Looks.left (B := RComH y n last mu fr rs rdy lkd stp ovr sn L) (comStamp_any x xc n last fr rs mu m.st m.seen m.stamp)
  rw [hS.1, hS.2] at hL
  have HG := Lib.hid ((BlkH.good x (comC x xc n last fr rs mu m.st m.seen m.stamp) 104).star (LstH.good y (f10 n last mu fr rs rdy lkd stp ovr sn) 115 2 L))
  have HO := Lib.hid hO
  have HL := Lib.hid (hL w F hO)
  clear hO hS hL h
  go_enter Try.func23, Try.ntmps23
  go_wp2_with fail
  refine HL.out.mono ?_
  rintro e w1 ⟨rfl, hb⟩
  obtain ⟨_, _, _, ⟨lv, g, _⟩, _⟩ := HG.out.calm HO.out hb
  obtain ⟨c0, c1, c2, c15, c16, c17, c18, c19, fz⟩ := rcom_cells g
  have HB := Lib.hid hb
  clear g hb HL
  go_wp2_with fail
  go_ret
  exact ⟨rfl, HB.out⟩
theorem rtakes10_any (c0 n c2 last : Int) (mu : Bool) (c5 : Int) (c6 : Value) (fr : Int) (w : World) : Calls Try.prog 16 #[.agg #[.int .i64 c0, .int .i64 n, .int .i64 c2, .int .i64 last, .bool mu, .int .i64 c5, c6], .int .i64 fr] w fun e w' => e = .returned (.bool (decide (((1 ≤ n ∧ n ≤ 16) ∧ 0 ≤ fr) ∧ 1 ≤ last ∧ last ≤ 1099511627776))) ∧ Below w.heap.size w w' := by
  have HT := Lib.hid (fun w => ktakes_any n fr w)
  have HB : Hid (∀ o, Below w.heap.size w (w.alloc o)) := fun o => (Below.refl _ _).alloc (Nat.le_refl _) _
  by_cases h0 : (1 ≤ n ∧ n ≤ 16) ∧ 0 ≤ fr
  · rw [decide_eq_true h0] at HT
    by_cases h1 : 1 ≤ last
    · by_cases h2 : last ≤ 1099511627776
      · rw [decide_eq_true (And.intro h0 (And.intro h1 h2))]
        have d1 : decide (1 ≤ last) = true := by simpa using h1
        have d2 : decide (last ≤ 1099511627776) = true := by simpa using h2
        clear h0
        go_enter Try.func16, Try.ntmps16
        go_wp2_with fail
        refine (HT.out _).mono ?_; rintro e w' ⟨rfl, rfl⟩
        go_wp2_with fail
        go_ret
        exact ⟨rfl, HB.out _⟩
      · rw [decide_eq_false (fun h => h2 h.2.2)]
        have d1 : decide (1 ≤ last) = true := by simpa using h1
        have d2 : decide (last ≤ 1099511627776) = false := by simpa using h2
        clear h0
        go_enter Try.func16, Try.ntmps16
        go_wp2_with fail
        refine (HT.out _).mono ?_; rintro e w' ⟨rfl, rfl⟩
        go_wp2_with fail
        go_ret
        exact ⟨rfl, HB.out _⟩
    · rw [decide_eq_false (fun h => h1 h.2.1)]
      have d1 : decide (1 ≤ last) = false := by simpa using h1
      clear h0
      go_enter Try.func16, Try.ntmps16
      go_wp2_with fail
      refine (HT.out _).mono ?_; rintro e w' ⟨rfl, rfl⟩
      go_wp2_with fail
      go_ret
      exact ⟨rfl, HB.out _⟩
  · rw [decide_eq_false h0] at HT
    rw [decide_eq_false (fun h => h0 h.1)]
    clear h0
    go_enter Try.func16, Try.ntmps16
    go_wp2_with fail
    refine (HT.out _).mono ?_; rintro e w' ⟨rfl, rfl⟩
    go_wp2_with fail
    go_ret
    exact ⟨rfl, HB.out _⟩
/-- The reference's New has answered. -/
def RComNew (w : World) (n last : Int) (mu : Bool) (fr : Int) (rs : Nat → Int) (e : Ending) (w' : World) : Prop := ∃ y, e = .returned (.pointer (some ⟨y, 0, none⟩)) ∧ AtW w (RComH y n last mu fr rs false false 0 false 0 []) w'
theorem rcomNew_any (c0 n c2 last : Int) (mu : Bool) (c5 : Int) (c6 : Value) (fr : Int) (rs : Nat → Int) (w : World) : Calls Try.prog 19 #[.agg #[.int .i64 c0, .int .i64 n, .int .i64 c2, .int .i64 last, .bool mu, .int .i64 c5, c6], .int .i64 fr, (.agg #[.int .u64 (rs 0), .int .u64 (rs 1), .int .u64 (rs 2), .int .u64 (rs 3), .int .u64 (rs 4), .int .u64 (rs 5), .int .u64 (rs 6), .int .u64 (rs 7)])] w (RComNew w n last mu fr rs) := by
  have HE : Hid (∀ e w', RComNew w n last mu fr rs e w' = ∃ y, e = .returned (.pointer (some ⟨y, 0, none⟩)) ∧ AtW w (RComH y n last mu fr rs false false 0 false 0 []) w') := fun _ _ => rfl
  have HB2 : Hid (∀ a b, Below w.heap.size w ((w.alloc a).alloc b)) := fun a b => ((Below.refl _ _).alloc (Nat.le_refl _) _).alloc (by simp) _
  go_enter Try.func19, Try.ntmps19
  go_wp2_with fail
  go_ret
  rw [HE.out]
  exact ⟨_, rfl, (LstH.newAt (f10 n last mu fr rs false false 0 false 0 (.slice none 0 0)) (f10 n last mu fr rs false false 0 false 0) _ 2 (by simp) rfl).up (HB2.out _ _)⟩
end Go.Proofs.Ytojkeahffabifaa
