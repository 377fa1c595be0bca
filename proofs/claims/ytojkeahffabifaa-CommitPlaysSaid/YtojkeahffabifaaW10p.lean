/- Layer 10: the walk of CommitPlays. -/
import Derived.Test.YtojkeahffabifaaC10t
import Derived.Test.YtojkeahffabifaaW10
import Derived.Test.YtojkeahffabifaaRT
import Derived.StillTailTactics
import Derived.Deep.RegionLaw
namespace Go.Proofs.Ytojkeahffabifaa
open Go.RowKit
set_option linter.unusedVariables false
/-- The two machines beside their memories. -/
abbrev FourC (p x r y R n C : Nat) (l l' : List Acc) (last fr : Int) (rs : Nat → Int) (mu : Bool) (m : MS) (rdy lkd : Bool) (stp : Int) (ovr : Bool) (sn : Int) (L : List Int) : HP := Star (KE p x R n C l last fr rs mu m) (RKStep r y R C l' n last mu fr rs rdy lkd stp ovr sn L)
theorem FourC.good (p x r y R n C : Nat) (l l' : List Acc) (last fr : Int) (rs : Nat → Int) (mu : Bool) (m : MS) (rdy lkd : Bool) (stp : Int) (ovr : Bool) (sn : Int) (L : List Int) : Good (FourC p x r y R n C l l' last fr rs mu m rdy lkd stp ovr sn L) := (KE.good _ _ _ _ _ _ _ _ _ _ _).star (RKStep.good _ _ _ _ _ _ _ _ _ _ _ _ _ _ _ _)
/-- The loop's invariant. -/
def PlayC (w : World) (p x r y R n C : Nat) (last fr : Int) (rs : Nat → Int) (mu : Bool) (k : Nat) (wr : World) : Prop := ∃ l m rdy lkd stp ovr sn L, AtW w (FourC p x r y R n C l l last fr rs mu m rdy lkd stp ovr sn L) wr ∧ l.length ≤ k ∧ OkW l ∧ CRel n fr rs last m rdy lkd stp ovr sn L
section
variable {w wr w' : World} {p x r y R n C k : Nat} {last fr : Int} {rs : Nat → Int} {mu : Bool}
theorem PlayC.below (h : PlayC w p x r y R n C last fr rs mu k wr) : Below w.heap.size w wr := by
  obtain ⟨l, m, rdy, lkd, stp, ovr, sn, L, h1, _⟩ := h
  exact h1.below
theorem PlayC.calm (h : PlayC w p x r y R n C last fr rs mu k wr) (hb : Below wr.heap.size wr w') : PlayC w p x r y R n C last fr rs mu k w' := by
  obtain ⟨l, m, rdy, lkd, stp, ovr, sn, L, h1, h2⟩ := h
  exact ⟨l, m, rdy, lkd, stp, ovr, sn, L, h1.calm (FourC.good _ _ _ _ _ _ _ _ _ _ _ _ _ _ _ _ _ _ _ _) hb, h2⟩
theorem PlayC.up (h : PlayC w p x r y R n C last fr rs mu k wr) : PlayC w p x r y R n C last fr rs mu (k + 1) wr := by
  obtain ⟨l, m, rdy, lkd, stp, ovr, sn, L, h1, h2, h3⟩ := h
  exact ⟨l, m, rdy, lkd, stp, ovr, sn, L, h1, by omega, h3⟩
theorem playC_tells (h : PlayC w p x r y R n C last fr rs mu k wr) :
    Calls Try.prog 23 #[.pointer (some ⟨x, 0, none⟩), .pointer (some ⟨y, 0, none⟩)] wr fun e w' => e = .returned (.bool true) ∧ PlayC w p x r y R n C last fr rs mu k w' := by
  have HP := Lib.hid h
  obtain ⟨l, m, rdy, lkd, stp, ovr, sn, L, h1, h2, h3, h4⟩ := h
  obtain ⟨F, FA, FB, ⟨xc, FC, FX, ⟨FM, FK, hM, hK, a1, a2⟩, hX, a3, a4⟩, ⟨FR, FY, hR, hY, b1, b2⟩, d1, d2⟩ := h1.has
  refine (tells10_any x xc y n last fr rs mu m rdy lkd stp ovr sn L h4 wr (fun b => FX b ∨ FY b) ⟨FX, FY, hX, hY, fun _ => Iff.rfl, fun b k1 k2 => d2 b ((a3 b).2 (.inr k1)) ((b1 b).2 (.inr k2))⟩).mono ?_
  rintro e w' ⟨rfl, hb⟩
  exact ⟨rfl, HP.out.calm hb⟩
/-- Behind the program's store, ahead of the reference's. -/
def StoreC (w : World) (p x r y R n C : Nat) (last fr : Int) (rs : Nat → Int) (mu : Bool) (k : Nat) (th a b d v : Int) (wr : World) : Prop := ∃ l m rdy lkd stp ovr sn L, AtW w (FourC p x r y R n C (putL R C l th a b d v) l last fr rs mu m rdy lkd stp ovr sn L) wr ∧ l.length ≤ k ∧ OkW l ∧ CRel n fr rs last m rdy lkd stp ovr sn L
theorem playC_store1 (h : PlayC w p x r y R n C last fr rs mu k wr) (hk : k ≤ 2999999999000) (th a b d v : Int) :
    Calls Try.prog 20 #[.pointer (some ⟨p, 0, none⟩), .int .i64 th, .agg #[.int .i64 a, .int .i64 b, .int .i64 d], .int .i64 v] wr fun e w' => (∃ z, e = .returned (.int .i64 z)) ∧ StoreC w p x r y R n C last fr rs mu k th a b d v w' := by
  obtain ⟨l, m, rdy, lkd, stp, ovr, sn, L, h1, h2, h3⟩ := h
  refine ((Lifts.left (RKStep.good _ _ _ _ _ _ _ _ _ _ _ _ _ _ _ _) (ExH.lift fun xc => ExH.to (Q := KS2 p x R n C (putL R C l th a b d v) last fr rs mu m) xc (Lifts.left (BlkH.good _ _ _) (Lifts.left (BlkH.good _ _ _) (store_any p R C l (by omega) th a b d v))))).at h1).mono ?_
  rintro e w' ⟨rfl, h⟩
  exact ⟨⟨_, rfl⟩, l, _, _, _, _, _, _, _, h, h2, h3⟩
theorem StoreC.below {th a b d v : Int} (h : StoreC w p x r y R n C last fr rs mu k th a b d v wr) : Below w.heap.size w wr := by
  obtain ⟨l, m, rdy, lkd, stp, ovr, sn, L, h1, _⟩ := h
  exact h1.below
theorem StoreC.calm {th a b d v : Int} (h : StoreC w p x r y R n C last fr rs mu k th a b d v wr) (hb : Below wr.heap.size wr w') : StoreC w p x r y R n C last fr rs mu k th a b d v w' := by
  obtain ⟨l, m, rdy, lkd, stp, ovr, sn, L, h1, h2⟩ := h
  exact ⟨l, m, rdy, lkd, stp, ovr, sn, L, h1.calm (FourC.good _ _ _ _ _ _ _ _ _ _ _ _ _ _ _ _ _ _ _ _) hb, h2⟩
theorem playC_store2 {th a b d v : Int} (h : StoreC w p x r y R n C last fr rs mu k th a b d v wr) (hk : k ≤ 2999999999000) (hv : I64 v) :
    Calls Try.prog 21 #[.pointer (some ⟨r, 0, none⟩), .int .i64 th, .agg #[.int .i64 a, .int .i64 b, .int .i64 d], .int .i64 v] wr fun e w' => (∃ z, e = .returned (.int .i64 z)) ∧ PlayC w p x r y R n C last fr rs mu (k + 1) w' := by
  obtain ⟨l, m, rdy, lkd, stp, ovr, sn, L, h1, h2, h3, h4⟩ := h
  refine ((Lifts.right (KE.good _ _ _ _ _ _ _ _ _ _ _) (Lifts.left (LstH.good _ _ _ _ _) (rstore_any r R C l (by omega) th a b d v))).at h1).mono ?_
  rintro e w' ⟨rfl, h⟩
  have := putL_len R C l th a b d v
  exact ⟨⟨_, rfl⟩, _, _, _, _, _, _, _, _, h, by omega, okW_put h3 th a b d v hv, h4⟩
/-- Behind the program's step, ahead of the reference's. -/
def StepC (w : World) (p x r y R n C : Nat) (last fr : Int) (rs : Nat → Int) (mu : Bool) (k : Nat) (th kd er v : Int) (O : HP → HP) (wr : World) : Prop := ∃ l rdy lkd stp ovr sn L l' m' rdy' lkd' stp' ovr' sn' L', CRel n fr rs last m' rdy' lkd' stp' ovr' sn' L' ∧ OkW l' ∧ l'.length ≤ k + 1 ∧
  Lifts Try.prog 22 #[.pointer (some ⟨y, 0, none⟩), .pointer (some ⟨r, 0, none⟩), .int .i64 th] (RKStep r y R C l n last mu fr rs rdy lkd stp ovr sn L) (RKStep r y R C l' n last mu fr rs rdy' lkd' stp' ovr' sn' L') (.returned (.tuple #[.int .i64 kd, .int .i64 er, .int .i64 v])) ∧
  AtW w (O (FourC p x r y R n C l' l last fr rs mu m' rdy lkd stp ovr sn L)) wr
theorem StepC.below {th kd er v : Int} (h : StepC w p x r y R n C last fr rs mu k th kd er v id wr) : Below w.heap.size w wr := by
  obtain ⟨l, rdy, lkd, stp, ovr, sn, L, l', m', rdy', lkd', stp', ovr', sn', L', _, _, _, _, g⟩ := h
  exact g.below
theorem StepC.box {th kd er v : Int} (h : StepC w p x r y R n C last fr rs mu k th kd er v id wr) (cs : Array Value) (T : TypeId) : StepC w p x r y R n C last fr rs mu k th kd er v (fun O => Star O (BlkH wr.heap.size cs T)) (wr.alloc (.cells cs T)) := by
  obtain ⟨l, rdy, lkd, stp, ovr, sn, L, l', m', rdy', lkd', stp', ovr', sn', L', h1, h2, h3, h4, g⟩ := h
  exact ⟨l, rdy, lkd, stp, ovr, sn, L, l', m', rdy', lkd', stp', ovr', sn', L', h1, h2, h3, h4, AtW.box (FourC.good _ _ _ _ _ _ _ _ _ _ _ _ _ _ _ _ _ _ _ _) g cs T⟩
theorem playC_step1 (hn1 : 1 ≤ n) (hn2 : n ≤ 16) (hf : 0 ≤ fr) (hla : last ≤ 1099511627776) (hrs : Wds rs) (h : PlayC w p x r y R n C last fr rs mu k wr) (hk : k ≤ 2999999999000) (th : Int) :
    Calls Try.prog 12 #[.pointer (some ⟨x, 0, none⟩), .pointer (some ⟨p, 0, none⟩), .int .i64 th] wr fun e w' => ∃ kd er v b, e = .returned (ansV kd er v b) ∧ ((kd = 0 ∧ b = false) ∨ ((kd = 1 ∨ kd = 2 ∨ kd = 3 ∨ kd = 4) ∧ b = true)) ∧ StepC w p x r y R n C last fr rs mu k th kd er v id w' := by
  obtain ⟨l, m, rdy, lkd, stp, ovr, sn, L, ⟨F, ⟨FA, FB, ⟨xc, ha⟩, hb, hF, hd⟩, q2, q3⟩, h2, h3, h4⟩ := h
  obtain ⟨l', m', rdy', lkd', stp', ovr', sn', L', kd, er, v, b, g1, g2, g3, g4, g5, g6⟩ := com_both p x r y n R C hn1 hn2 last fr hf hla rs hrs mu l (by omega) h3 m rdy lkd stp ovr sn L h4 th xc
  refine ((Lifts.left (RKStep.good _ _ _ _ _ _ _ _ _ _ _ _ _ _ _ _) g5).at ⟨F, ⟨FA, FB, ha, hb, hF, hd⟩, q2, q3⟩).mono ?_
  rintro e w' ⟨rfl, h⟩
  exact ⟨kd, er, v, b, rfl, g4, l, rdy, lkd, stp, ovr, sn, L, l', m', rdy', lkd', stp', ovr', sn', L', g1, g2, by omega, g6, h⟩
theorem playC_step2 {th kd er v : Int} {Q : HP} (gq : Good Q) (h : StepC w p x r y R n C last fr rs mu k th kd er v (fun O => Star O Q) wr) :
    Calls Try.prog 22 #[.pointer (some ⟨y, 0, none⟩), .pointer (some ⟨r, 0, none⟩), .int .i64 th] wr fun e w' => e = .returned (.tuple #[.int .i64 kd, .int .i64 er, .int .i64 v]) ∧ PlayC w p x r y R n C last fr rs mu (k + 1) w' ∧ Has Q w' := by
  obtain ⟨l, rdy, lkd, stp, ovr, sn, L, l', m', rdy', lkd', stp', ovr', sn', L', h1, h2, h3, h4, g⟩ := h
  refine ((Lifts.left gq (Lifts.right (KE.good _ _ _ _ _ _ _ _ _ _ _) h4)).at g).mono ?_
  rintro e w' ⟨rfl, h⟩
  exact ⟨rfl, ⟨l', m', rdy', lkd', stp', ovr', sn', L', h.fst, h3, h2, h1⟩, h.has.right⟩
/-- The logs are compared. -/
theorem playC_logs (h : PlayC w p x r y R n C last fr rs mu k wr) (hk : k ≤ 2999999999000) :
    ∃ l lv, wr.cell? ⟨r, 2, none⟩ = some lv ∧ (∀ o, wr.frozen? ⟨r, o, none⟩ = false) ∧ Calls Try.prog 25 #[.pointer (some ⟨p, 0, none⟩), .int .i64 0] wr (LogGot wr l) ∧
      ∀ v w', w'.ownsRow 0 117 8 v l.length (accCells l) → Below wr.heap.size wr w' → Calls Try.prog 24 #[v, lv] w' fun e w2 => e = .returned (.bool true) ∧ Below w.heap.size w w2 := by
  obtain ⟨l, m, rdy, lkd, stp, ovr, sn, L, h1, h2, h3, h4⟩ := h
  have hbel := h1.below
  obtain ⟨F, FA, FB, ⟨xc, FC, FX, ⟨FM, FK, hM, hK, a1, a2⟩, hX, a3, a4⟩, ⟨FR, FY, ⟨lv, g1, g2, g3, g4⟩, hY, b1, b2⟩, d1, d2⟩ := h1.has
  obtain ⟨_, _, q2, qz⟩ := three_cells g1
  refine ⟨l, lv, q2, qz, log_any p R C l (by omega) wr FM hM, fun v w' hv hb => ?_⟩
  refine (accs10_any v lv l (by omega) w' hv (own_calm g2 hb)).mono ?_
  rintro e w2 ⟨rfl, hb2⟩
  exact ⟨rfl, hbel.trans ((hb.trans (hb2.mono hb.size)).mono hbel.size)⟩
end
theorem com_start {A B C : HP} {w : World} {F : Nat → Prop} (h : Star (Star B C) A w F) : Star (Star A B) C w F := star_as h.comm
theorem star_asR {A B C : HP} {w : World} {F : Nat → Prop} (h : Star (Star A B) C w F) : Star A (Star B C) w F := Star.assocR h
set_option maxHeartbeats 8000000 in
set_option maxRecDepth 100000 in
theorem commitPlays_law {w : World} (c0 n c2 last : Int) (mu : Bool) (c5 : Int) (a6 : Option Addr) (l6 k6 : Nat) (fr : Int) (rs : Nat → Int) (ring : Int) (a : Option Addr) (len cap : Nat) (q : Nat → Nat → Int) (hrs : Wds rs) (hg : Grid w a len 6 q) (hlc : len ≤ cap) (hcm : cap ≤ maxLen) (hq : ∀ i j, (Lit.int .i64 (q i j)).wf = true) (hsmall : len ≤ 2932031007402) :
    Calls Try.prog 5 #[.agg #[.int .i64 c0, .int .i64 n, .int .i64 c2, .int .i64 last, .bool mu, .int .i64 c5, .slice a6 l6 k6, .int .i64 fr, .int .u64 (rs 0), .int .u64 (rs 1), .int .u64 (rs 2), .int .u64 (rs 3), .int .u64 (rs 4), .int .u64 (rs 5), .int .u64 (rs 6), .int .u64 (rs 7), .int .i64 ring, .slice a len cap]] w fun e w' => e = .returned (.bool true) ∧ Below w.heap.size w w' := by
  have HG := Lib.hid hg
  have HQ := Lib.hid hq
  unfold maxLen at hcm
  have HB0 : Hid (∀ a b c, Below w.heap.size w (((w.alloc a).alloc b).alloc c)) := fun a b c => (((Below.refl _ _).alloc (Nat.le_refl _) _).alloc (by simp) _).alloc (by simp; omega) _
  have HBX0 : Hid (∀ (wb : World) a b c, Below (((w.alloc a).alloc b).alloc c).heap.size (((w.alloc a).alloc b).alloc c) wb → wb.heap[w.heap.size + 1]? = some b ∧ wb.heap[w.heap.size + 2]? = some c) := fun wb a b c hb => ⟨(hb.block _ (by simp)).trans (heapAlloc_old (by
    have h := heapAlloc (w.alloc a) b
    rwa [World.size_alloc] at h) c), (hb.block _ (by simp)).trans (by
    have h := heapAlloc ((w.alloc a).alloc b) c
    rwa [World.size_alloc, World.size_alloc] at h)⟩
  clear hg hq
  have HT := Lib.hid (fun w => rtakes10_any c0 n c2 last mu c5 (.slice a6 l6 k6) fr w)
  by_cases hs : ((1 ≤ n ∧ n ≤ 16) ∧ 0 ≤ fr) ∧ 1 ≤ last ∧ last ≤ 1099511627776
  · obtain ⟨n, rfl⟩ : ∃ m : Nat, n = m := ⟨n.toNat, by omega⟩
    have hn1 : 1 ≤ n := by omega
    have hn2 : n ≤ 16 := by omega
    have hf : 0 ≤ fr := hs.1.2
    have hla := hs.2.2
    rw [decide_eq_true hs] at HT
    have HC := Lib.hid (fun w => comNew_any c0 n c2 last mu c5 (.slice a6 l6 k6) fr rs (by omega) (by omega) hf hs.2.1 hs.2.2 w)
    have HRN := Lib.hid (fun w => rcomNew_any c0 n c2 last mu c5 (.slice a6 l6 k6) fr rs w)
    have HWS := Lib.hid hrs
    unfold ComNew at HC
    unfold RComNew at HRN
    have HT2 := Lib.hid (rtakes_any 3 ring)
    by_cases hm : 1 ≤ ring ∧ ring ≤ 16
    · obtain ⟨R, rfl⟩ : ∃ R : Nat, ring = R := ⟨ring.toNat, by omega⟩
      have hm2 : ((1 : Int) ≤ 3 ∧ (3 : Int) ≤ 1024) ∧ (1 : Int) ≤ (R : Int) ∧ (R : Int) ≤ 16 := ⟨by decide, hm⟩
      rw [decide_eq_true hm2] at HT2
      have HM := Lib.hid (memNew_any 3 R (by omega) (by omega) (by omega) (by omega))
      have HR := Lib.hid (rmemNew_any 3 R)
      clear hs hm hrs hm2
      go_enter Try.func5, Try.ntmps5
      go_wp2_with fail
      refine (shown10_any _).mono ?_; rintro e w1 ⟨rfl, hb⟩
      have hbx := HBX0.out _ _ _ _ hb
      have HBX := Lib.hid hbx
      have B1 := Lib.hid ((HB0.out _ _ _).trans (hb.mono (by simp; omega)))
      obtain ⟨d0, d1, d2, d3, d4, d5, d6, d7, dz⟩ := blk_facts hbx.2
      obtain ⟨f0, f1, f2, f3, f4, f5, f6, fzz⟩ := cfg_cells hbx.1
      clear hb hbx HBX0
      go_wp2_with fail
      refine (HC.out w1).mono ?_; rintro e w2 ⟨x, xc, rfl, h⟩
      have hx1 := (h.below.block _ (heap_lt HBX.out.1)).trans HBX.out.1
      obtain ⟨g0, g1, g2, g3, g4, g5, g6, gz⟩ := cfg_cells hx1
      have H2 := Lib.hid h
      clear h d0 d1 d2 d3 d4 d5 d6 d7 dz f0 f1 f2 f3 f4 f5 f6 fzz hx1
      go_wp2_with fail
      refine (HT.out w2).mono ?_; rintro e w2b ⟨rfl, hb⟩
      have H2b := Lib.hid (H2.out.calm ((BlkH.good _ _ _).star (BlkH.good _ _ _)) hb)
      clear hb H2 g0 g1 g2 g3 g4 g5 g6 gz
      go_wp2_with fail
      refine (HT2.out w2b).mono ?_; rintro e w' ⟨rfl, rfl⟩
      go_wp2_with fail
      refine (HM.out w2b).mono ?_; rintro e w3 ⟨p, rfl, h⟩
      have H3 : Hid (AtW w1 (KE p x R n 3 [] last fr rs mu ⟨0, 0, 0, ⟨0, fr, 0, 0, 0⟩⟩) w3) := (H2b.out.new ((BlkH.good _ _ _).star (BlkH.good _ _ _)) h).imp (fun _ h => ⟨xc, com_start h⟩)
      clear h H2b
      go_wp2_with fail
      refine (HR.out w3).mono ?_; rintro e w4 ⟨r, rfl, h⟩
      have H4 := Lib.hid (H3.out.new (KE.good _ _ _ _ _ _ _ _ _ _ _) h)
      clear h H3
      obtain ⟨d0, d1, d2, d3, d4, d5, d6, d7, dz⟩ := blk_facts ((H4.out.below.block _ (heap_lt HBX.out.2)).trans HBX.out.2)
      obtain ⟨g0, g1, g2, g3, g4, g5, g6, gz⟩ := cfg_cells ((H4.out.below.block _ (heap_lt HBX.out.1)).trans HBX.out.1)
      go_wp2_with fail
      refine (HRN.out w4).mono ?_; rintro e w5 ⟨y, rfl, h⟩
      have H5 : Hid (PlayC w1 p x r y R n 3 last fr rs mu 0 w5) := ⟨[], ⟨0, 0, 0, ⟨0, fr, 0, 0, 0⟩⟩, false, false, 0, false, 0, [], ((H4.out.new ((KE.good _ _ _ _ _ _ _ _ _ _ _).star (RMemH.good _ _ _ _)) h).imp (fun _ h => star_asR h)), Nat.zero_le _, okW_nil, .inl ⟨rfl, rfl, rfl, rfl, 0, KRel.nil _ _ _ _⟩⟩
      clear h H4 HM HR HT HT2 HC HRN HBX d0 d1 d2 d3 d4 d5 d6 d7 dz g0 g1 g2 g3 g4 g5 g6 gz
      go_wp2_with fail
      go_loopw [17] (fun i wr => ∃ k : Nat, k ≤ len ∧ i = .int .i64 k ∧ Hid (PlayC w1 p x r y R n 3 last fr rs mu k wr)) (fun i _ => len - (intOf i).toNat)
      case atStart => exact ⟨0, by omega, rfl, H5.out⟩
      case round =>
        obtain ⟨k, hk, rfl, HE⟩ := hrel
        clear H5
        by_cases hlt : k < len
        · obtain ⟨b, off, rfl, hbw, hcell⟩ := HG.out.resolve_left (by omega)
          have hbel := B1.out.trans (HE.out.below.mono B1.out.size)
          have c0 := (hbel.cell (p := ⟨b, off + k * 6 + 0, none⟩) hbw).trans (hcell k hlt 0 (by omega))
          simp only [Nat.add_zero] at c0
          by_cases h1 : q k 0 = 1
          · rw [h1] at c0
            have c2 := (hbel.cell (p := ⟨b, off + k * 6 + 2, none⟩) hbw).trans (hcell k hlt 2 (by omega))
            have c3 := (hbel.cell (p := ⟨b, off + k * 6 + 3, none⟩) hbw).trans (hcell k hlt 3 (by omega))
            have c4 := (hbel.cell (p := ⟨b, off + k * 6 + 4, none⟩) hbw).trans (hcell k hlt 4 (by omega))
            have c5 := (hbel.cell (p := ⟨b, off + k * 6 + 5, none⟩) hbw).trans (hcell k hlt 5 (by omega))
            have HX := Lib.hid (playC_store1 (HE.out.calm ((Below.refl _ _).drew)) (by omega) (-1) (q k 2) (q k 3) (q k 4) (q k 5))
            clear h1
            go_wp2_with fail
            go_still_tail 11, (by kernel_rfl)
            change wpList _ _ _ _ _ wr.drew
            go_wp2_with fail
            refine HX.out.mono ?_; rintro e w6 ⟨⟨z, rfl⟩, h⟩
            have H5 := Lib.hid h
            have hbel5 := B1.out.trans (h.below.mono B1.out.size)
            clear h HX c0 c2 c3 c4 c5 hbel
            have c2 := (hbel5.cell (p := ⟨b, off + k * 6 + 2, none⟩) hbw).trans (hcell k hlt 2 (by omega))
            have c3 := (hbel5.cell (p := ⟨b, off + k * 6 + 3, none⟩) hbw).trans (hcell k hlt 3 (by omega))
            have c4 := (hbel5.cell (p := ⟨b, off + k * 6 + 4, none⟩) hbw).trans (hcell k hlt 4 (by omega))
            have c5 := (hbel5.cell (p := ⟨b, off + k * 6 + 5, none⟩) hbw).trans (hcell k hlt 5 (by omega))
            have HX := Lib.hid (playC_store2 (H5.out.calm ((Below.refl _ _).drew)) (by omega) (I64.of_wf (HQ.out k 5)))
            clear hcell hbel5 H5
            go_wp2_with fail
            go_still_tail 11, (by kernel_rfl)
            change wpList _ _ _ _ _ w6.drew
            go_wp2_with fail
            refine HX.out.mono ?_; rintro e w7 ⟨⟨z, rfl⟩, h⟩
            have H6 := Lib.hid h
            clear h HX c2 c3 c4 c5
            go_wp2_with fail
            go_roundw
            case rel => exact ⟨k + 1, by omega, by go_num, H6.out⟩
            case measure => simp [intOf]; omega
          · have e1 : (q k 0 == 1) = false := by simp [h1]
            by_cases h2 : q k 0 = 2
            · rw [h2] at c0
              have c1 := (hbel.cell (p := ⟨b, off + k * 6 + 1, none⟩) hbw).trans (hcell k hlt 1 (by omega))
              have HX := Lib.hid (playC_step1 hn1 hn2 hf hla HWS.out HE.out (by omega) (q k 1))
              clear e1 h1 h2
              go_wp2_with fail
              refine HX.out.mono ?_; rintro e w6 ⟨kd, er, v, bb, rfl, hkd, h⟩
              have hbel5 := B1.out.trans (h.below.mono B1.out.size)
              have H5 := Lib.hid (h.box #[.int .i64 kd, .int .i64 er, .int .i64 v, .bool bb] 51)
              have c1' := (hbel5.cell (p := ⟨b, off + k * 6 + 1, none⟩) hbw).trans (hcell k hlt 1 (by omega))
              have hb5 : b < w6.heap.size := Nat.lt_of_lt_of_le hbw hbel5.size
              clear h HX c0 c1 hbel hbel5
              unfold ansV
              go_wp2_with fail
              refine (playC_step2 (BlkH.good _ _ _) H5.out).mono ?_; rintro e w7 ⟨rfl, h, hbx⟩
              have H6 := Lib.hid h
              obtain ⟨z0, z1, z2, z3, _⟩ := four_cells hbx.blk
              clear h hbx H5 c1' hb5 hcell
              rcases hkd with ⟨rfl, rfl⟩ | ⟨rfl | rfl | rfl | rfl, rfl⟩
              all_goals
                go_wp2_with fail
                go_roundw
                case rel => exact ⟨k + 1, by omega, by go_num, H6.out⟩
                case measure => simp [intOf]; omega
            · have e2 : (q k 0 == 2) = false := by simp [h2]
              by_cases h3 : q k 0 = 3
              · have e3 : (q k 0 == 3) = true := by simp [h3]
                clear h1 h2 h3 hcell
                go_wp2_with fail
                refine (playC_tells HE.out).mono ?_; rintro e w6 ⟨rfl, h⟩
                have H6 := Lib.hid h.up
                clear h
                go_wp2_with fail
                go_roundw
                case rel => exact ⟨k + 1, by omega, by go_num, H6.out⟩
                case measure => simp [intOf]; omega
              · have e3 : (q k 0 == 3) = false := by simp [h3]
                have H6 := Lib.hid HE.out.up
                clear h1 h2 h3 hcell
                go_wp2_with fail
                go_roundw
                case rel => exact ⟨k + 1, by omega, by go_num, H6.out⟩
                case measure => simp [intOf]; omega
        · obtain rfl : k = len := by omega
          go_wp2_with fail
          refine (playC_tells HE.out).mono ?_; rintro e w6 ⟨rfl, h⟩
          have H5 := Lib.hid (h.calm ((Below.refl _ _).drew))
          clear h HE
          obtain ⟨l, lv, q2, qz, HLG, HAC⟩ := playC_logs H5.out (by omega)
          have HLG := Lib.hid HLG
          have HAC := Lib.hid HAC
          have hrl : r < w6.drew.heap.size := World.block_lt_of_cell? _ _ q2
          go_wp2_with fail
          go_region_law (first | (go_simp; go_at_call 25; refine HLG.out.mono ?_; rintro e wl ⟨v, rfl, hv, hb⟩; have ql := (hb.cell (p := ⟨r, 2, none⟩) hrl).trans q2) | (go_simp; go_at_call 24; refine (HAC.out _ _ hv hb).mono ?_; rintro e w7 ⟨rfl, h7⟩))
          all_goals
            have H7 := Lib.hid h7
            clear h7 hv hb ql
            go_wp2_with fail
            go_ret
            exact ⟨rfl, B1.out.trans (H7.out.mono B1.out.size)⟩
    · have hm2 : ¬ (((1 : Int) ≤ 3 ∧ (3 : Int) ≤ 1024) ∧ (1 : Int) ≤ ring ∧ ring ≤ 16) := fun h => hm h.2
      rw [decide_eq_false hm2] at HT2
      clear hs hm hrs hm2
      go_enter Try.func5, Try.ntmps5
      go_wp2_with fail
      refine (shown10_any _).mono ?_; rintro e w1 ⟨rfl, hb⟩
      have hbx := HBX0.out _ _ _ _ hb
      have HBX := Lib.hid hbx
      have B1 := Lib.hid ((HB0.out _ _ _).trans (hb.mono (by simp; omega)))
      obtain ⟨d0, d1, d2, d3, d4, d5, d6, d7, dz⟩ := blk_facts hbx.2
      obtain ⟨f0, f1, f2, f3, f4, f5, f6, fzz⟩ := cfg_cells hbx.1
      clear hb hbx HBX0
      go_wp2_with fail
      refine (HC.out w1).mono ?_; rintro e w2 ⟨x, xc, rfl, h⟩
      have hx1 := (h.below.block _ (heap_lt HBX.out.1)).trans HBX.out.1
      obtain ⟨g0, g1, g2, g3, g4, g5, g6, gz⟩ := cfg_cells hx1
      have H2 := Lib.hid (B1.out.trans (h.below.mono B1.out.size))
      clear h d0 d1 d2 d3 d4 d5 d6 d7 dz f0 f1 f2 f3 f4 f5 f6 fzz hx1
      go_wp2_with fail
      refine (HT.out w2).mono ?_; rintro e w2b ⟨rfl, hb⟩
      have H2b := Lib.hid (H2.out.trans (hb.mono H2.out.size))
      clear hb H2 g0 g1 g2 g3 g4 g5 g6 gz
      go_wp2_with fail
      refine (HT2.out w2b).mono ?_; rintro e w' ⟨rfl, rfl⟩
      go_wp2_with fail
      go_ret
      exact ⟨rfl, H2b.out⟩
  · rw [decide_eq_false hs] at HT
    have HC := Lib.hid (fun w => comNew_bad c0 n c2 last mu c5 (.slice a6 l6 k6) fr rs hs w)
    clear hs hrs
    go_enter Try.func5, Try.ntmps5
    go_wp2_with fail
    refine (shown10_any _).mono ?_; rintro e w1 ⟨rfl, hb⟩
    have hbx := HBX0.out _ _ _ _ hb
    have HBX := Lib.hid hbx
    have B1 := Lib.hid ((HB0.out _ _ _).trans (hb.mono (by simp; omega)))
    obtain ⟨d0, d1, d2, d3, d4, d5, d6, d7, dz⟩ := blk_facts hbx.2
    obtain ⟨f0, f1, f2, f3, f4, f5, f6, fzz⟩ := cfg_cells hbx.1
    clear hb hbx HBX0
    go_wp2_with fail
    refine (HC.out w1).mono ?_; rintro e w2 ⟨rfl, hb⟩
    have hx1 := (hb.block _ (heap_lt HBX.out.1)).trans HBX.out.1
    obtain ⟨g0, g1, g2, g3, g4, g5, g6, gz⟩ := cfg_cells hx1
    have H2 := Lib.hid (B1.out.trans (hb.mono B1.out.size))
    clear hb d0 d1 d2 d3 d4 d5 d6 d7 dz f0 f1 f2 f3 f4 f5 f6 fzz hx1
    go_wp2_with fail
    refine (HT.out w2).mono ?_; rintro e w2b ⟨rfl, hb⟩
    have H2b := Lib.hid (H2.out.trans (hb.mono H2.out.size))
    clear hb H2 g0 g1 g2 g3 g4 g5 g6 gz
    go_wp2_with fail
    go_ret
    exact ⟨rfl, H2b.out⟩
end Go.Proofs.Ytojkeahffabifaa
namespace Go.Proofs.Ytojkeahffabifaa
open Go.ChangeShapes Go.WideShapes Go.Deep Go.RowKit
section
variable {H : Type} {enc : TypeId × Value → H} {w : World} {base : Nat} {spare : Nat → Bool} {held : Bool}
theorem leaf_slice {P : Program} {t e : TypeId} {v : Value} (ht : P.underlying t = some (.slice e)) (h : Leaf enc P w base spare held t v) : ∃ a len cap, v = .slice a len cap := by
  obtain ⟨m, y, hy⟩ := h
  rcases open_slice ht hy with ⟨he, _⟩ | ⟨a', len, cap, m, n', D, Pl, he, _⟩
  · simp only [List.cons.injEq, and_true] at he
    exact ⟨_, _, _, he⟩
  · simp only [List.cons.injEq, and_true] at he
    exact ⟨_, _, _, he⟩
theorem flatAct10 : flat Try.prog 6 74 = some [3, 3, 3, 3, 3, 2] := by kernel_rfl
theorem intsAct10 : ∀ u ∈ [3, 3, 3, 3, 3, 2], Try.prog.underlying u = some (.int .i64) := by
  intro u hu
  simp only [List.mem_cons, List.not_mem_nil, or_false] at hu
  rcases hu with h | h | h | h | h | h <;> rw [h]
  · exact Try.underlying3
  · exact Try.underlying3
  · exact Try.underlying3
  · exact Try.underlying3
  · exact Try.underlying3
  · exact Try.underlying2
set_option maxRecDepth 100000 in
theorem open_commitPlays {r : Reach} {b0 : Nat} {v : Value} {d : DataW H} {p : List MemPlace} (hv : Value.okWide Try.prog w r b0 66 v) (h : DataW.Trod enc Try.prog w base spare held 66 v d p) :
    ∃ (c0 n c2 last : Int) (mu : Bool) (c5 : Int) (a6 : Option Addr) (l6 k6 : Nat) (f : Int) (s : Nat → Int) (ring : Int) (a : Option Addr) (len cap : Nat) (q : Nat → Nat → Int), v = .agg #[.int .i64 c0, .int .i64 n, .int .i64 c2, .int .i64 last, .bool mu, .int .i64 c5, .slice a6 l6 k6, .int .i64 f, .int .u64 (s 0), .int .u64 (s 1), .int .u64 (s 2), .int .u64 (s 3), .int .u64 (s 4), .int .u64 (s 5), .int .u64 (s 6), .int .u64 (s 7), .int .i64 ring, .slice a len cap] ∧ Wds s ∧ Grid w a len 6 q ∧ len ≤ cap ∧ cap ≤ maxLen ∧ (∀ i j, (Lit.int .i64 (q i j)).wf = true) ∧ InD d len := by
  obtain ⟨l, rfl, hl, hf⟩ := open_agg (n := 6) (ts := [3, 3, 3, 2, 4, 3, 47, 2, 40, 40, 40, 40, 40, 40, 40, 40, 3, 64]) (.inl ⟨_, Try.underlying66⟩) (by kernel_rfl) hv h
  obtain ⟨fuel, hfu⟩ := h
  match l, hl with
  | [y0, y1, y2, y3, y4, y5, y6, x1, x2, x3, x4, x5, x6, x7, x8, x9, x12, x13], _ =>
    obtain ⟨c0, rfl, _⟩ := leaf_int Try.underlying3 (hf 0 _ y0 rfl rfl)
    obtain ⟨n, rfl, _⟩ := leaf_int Try.underlying3 (hf 1 _ y1 rfl rfl)
    obtain ⟨c2, rfl, _⟩ := leaf_int Try.underlying3 (hf 2 _ y2 rfl rfl)
    obtain ⟨last, rfl, _⟩ := leaf_int Try.underlying2 (hf 3 _ y3 rfl rfl)
    obtain ⟨mu, rfl⟩ := leaf_bool Try.underlying4 (hf 4 _ y4 rfl rfl)
    obtain ⟨c5, rfl, _⟩ := leaf_int Try.underlying3 (hf 5 _ y5 rfl rfl)
    obtain ⟨a6, l6, k6, rfl⟩ := leaf_slice Try.underlying47 (hf 6 _ y6 rfl rfl)
    obtain ⟨f, rfl, hf'⟩ := leaf_int Try.underlying2 (hf 7 _ x1 rfl rfl)
    obtain ⟨a0, rfl, k0⟩ := leaf_int Try.underlying40 (hf 8 _ x2 rfl rfl)
    obtain ⟨a1, rfl, k1⟩ := leaf_int Try.underlying40 (hf 9 _ x3 rfl rfl)
    obtain ⟨a2, rfl, k2⟩ := leaf_int Try.underlying40 (hf 10 _ x4 rfl rfl)
    obtain ⟨a3, rfl, k3⟩ := leaf_int Try.underlying40 (hf 11 _ x5 rfl rfl)
    obtain ⟨a4, rfl, k4⟩ := leaf_int Try.underlying40 (hf 12 _ x6 rfl rfl)
    obtain ⟨a5, rfl, k5⟩ := leaf_int Try.underlying40 (hf 13 _ x7 rfl rfl)
    obtain ⟨a6', rfl, k6'⟩ := leaf_int Try.underlying40 (hf 14 _ x8 rfl rfl)
    obtain ⟨a7, rfl, k7⟩ := leaf_int Try.underlying40 (hf 15 _ x9 rfl rfl)
    obtain ⟨ring, rfl, _⟩ := leaf_int Try.underlying3 (hf 16 _ x12 rfl rfl)
    obtain ⟨m, y, hy, hin⟩ := field_in (st := 64) (j := 4) (o := 17) Try.underlying66 (by kernel_rfl) (by kernel_rfl) hfu (v := x13) rfl
    obtain ⟨a, len, cap, q, rfl, g1, g2, g3, g4, g5⟩ := open_gridS (sz := 6) Try.underlying64 flatAct10 (by kernel_rfl) rfl (Nat.succ_pos 5) intsAct10 hy
    obtain ⟨s, hs, rfl, rfl, rfl, rfl, rfl, rfl, rfl, rfl⟩ := sig8 a0 a1 a2 a3 a4 a5 a6' a7 k0 k1 k2 k3 k4 k5 k6' k7
    exact ⟨c0, n, c2, last, mu, c5, a6, l6, k6, f, s, ring, a, len, cap, q, rfl, hs, g1, g2, g3, g4, hin _ g5⟩
theorem commitPlays_sized {ts : List TypeId} {ds : List (DataW H)} {i : Nat} {d : DataW H} {p : List MemPlace} {v : Value} {a : Option Addr} {len cap : Nat} (hz : (DataW.weightsEach Try.prog ts ds).all (· ≤ reachBytes) = true) (ht : ts[i]? = some 66) (hd : ds[i]? = some d) (h : DataW.Trod enc Try.prog w base spare held 66 v d p) (hv : v.cells.toList[17]? = some (.slice a len cap)) : len ≤ 2932031007402 := by
  have h1 := sized_field (st := 64) (j := 4) (o := 17) (B := 48) Try.underlying66 (by kernel_rfl) (by kernel_rfl) Try.underlying64 (by kernel_rfl) hz ht hd h hv
  omega
end
end Go.Proofs.Ytojkeahffabifaa
