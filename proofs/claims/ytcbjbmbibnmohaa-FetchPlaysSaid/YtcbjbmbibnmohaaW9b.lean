/- Layer 9: the walk of FetchPlays. -/
import Derived.Test.YtcbjbmbibnmohaaW9
import Derived.Test.YtcbjbmbibnmohaaR1
import Derived.Test.YtcbjbmbibnmohaaW8b
import Derived.StillTailTactics
import Derived.Deep.RegionLaw
namespace Go.Proofs.Ytcbjbmbibnmohaa
open Go.RowKit
set_option linter.unusedVariables false
/-- The two machines beside their memories. -/
abbrev FourF (p x xc r y n R C : Nat) (l l' : List Acc) (fr c : Int) (rs : Nat → Int) (rd rd' : Bool) (val val' : Int) (s : CS) (L : List Int) : HP := Star (FStep p x xc R C l n fr c rs rd val s) (RFStep r y R C l' c rd' val' n fr rs L)
theorem FourF.good (p x xc r y n R C : Nat) (l l' : List Acc) (fr c : Int) (rs : Nat → Int) (rd rd' : Bool) (val val' : Int) (s : CS) (L : List Int) : Good (FourF p x xc r y n R C l l' fr c rs rd rd' val val' s L) := (FStep.good _ _ _ _ _ _ _ _ _ _ _ _ _).star (RFStep.good _ _ _ _ _ _ _ _ _ _ _ _)
/-- The loop's invariant. -/
def PlayF (w : World) (p x xc r y n R C : Nat) (fr c : Int) (rs : Nat → Int) (k : Nat) (wr : World) : Prop := ∃ l rd val s e L, AtW w (FourF p x xc r y n R C l l fr c rs rd rd val val s L) wr ∧ l.length ≤ k ∧ OkW l ∧ KRel n fr rs true s e L
section
variable {w wr w' : World} {p x xc r y n R C k : Nat} {fr c : Int} {rs : Nat → Int}
theorem PlayF.below (h : PlayF w p x xc r y n R C fr c rs k wr) : Below w.heap.size w wr := by
  obtain ⟨l, rd, val, s, e, L, h1, _⟩ := h
  exact h1.below
theorem PlayF.calm (h : PlayF w p x xc r y n R C fr c rs k wr) (hb : Below wr.heap.size wr w') : PlayF w p x xc r y n R C fr c rs k w' := by
  obtain ⟨l, rd, val, s, e, L, h1, h2⟩ := h
  exact ⟨l, rd, val, s, e, L, h1.calm (FourF.good _ _ _ _ _ _ _ _ _ _ _ _ _ _ _ _ _ _ _) hb, h2⟩
theorem PlayF.up (h : PlayF w p x xc r y n R C fr c rs k wr) : PlayF w p x xc r y n R C fr c rs (k + 1) wr := by
  obtain ⟨l, rd, val, s, e, L, h1, h2, h3⟩ := h
  exact ⟨l, rd, val, s, e, L, h1, by omega, h3⟩
theorem playF_tells (hn1 : 1 ≤ n) (hn2 : n ≤ 16) (hf : 0 ≤ fr) (h : PlayF w p x xc r y n R C fr c rs k wr) :
    Calls Try.prog 24 #[.pointer (some ⟨x, 0, none⟩), .pointer (some ⟨y, 0, none⟩)] wr fun e w' => e = .returned (.bool true) ∧ PlayF w p x xc r y n R C fr c rs k w' := by
  have HP := Lib.hid h
  obtain ⟨l, rd, val, s, e, L, h1, h2, h3, h4⟩ := h
  have hh : Has (TwoF x xc y n fr c rs rd val s L) wr := by
    obtain ⟨F, FA, FB, ⟨FC, FX, ⟨FM, FK, hM, hK, a1, a2⟩, hX, a3, a4⟩, ⟨FR, FY, hR, hY, b1, b2⟩, d1, d2⟩ := h1.has
    exact ⟨fun b => (FK b ∨ FX b) ∨ FY b, fun b => FK b ∨ FX b, FY, ⟨FK, FX, hK, hX, fun _ => Iff.rfl, fun b k1 k2 => a4 b ((a1 b).2 (.inr k1)) k2⟩, hY, fun _ => Iff.rfl, fun b k1 k2 => d2 b (k1.elim (fun k => (a3 b).2 (.inl ((a1 b).2 (.inr k)))) (fun k => (a3 b).2 (.inr k))) ((b1 b).2 (.inr k2))⟩
  obtain ⟨F, hF⟩ := hh
  refine (tells9_any x xc y n hn1 hn2 fr hf c rs rd val s e L h4 wr F hF).mono ?_
  rintro e w' ⟨rfl, hb⟩
  exact ⟨rfl, HP.out.calm hb⟩
/-- Behind the program's store, ahead of the reference's. -/
def StoreF (w : World) (p x xc r y n R C : Nat) (fr c : Int) (rs : Nat → Int) (k : Nat) (th a b d v : Int) (wr : World) : Prop := ∃ l rd val s e L, AtW w (FourF p x xc r y n R C (putL R C l th a b d v) l fr c rs rd rd val val s L) wr ∧ l.length ≤ k ∧ OkW l ∧ KRel n fr rs true s e L
theorem playF_store1 (h : PlayF w p x xc r y n R C fr c rs k wr) (hk : k ≤ 2999999999000) (th a b d v : Int) :
    Calls Try.prog 21 #[.pointer (some ⟨p, 0, none⟩), .int .i64 th, .agg #[.int .i64 a, .int .i64 b, .int .i64 d], .int .i64 v] wr fun e w' => (∃ z, e = .returned (.int .i64 z)) ∧ StoreF w p x xc r y n R C fr c rs k th a b d v w' := by
  obtain ⟨l, rd, val, s, e, L, h1, h2, h3⟩ := h
  refine ((Lifts.left (RFStep.good _ _ _ _ _ _ _ _ _ _ _ _) (Lifts.left (BlkH.good _ _ _) (Lifts.left (BlkH.good _ _ _) (store_any p R C l (by omega) th a b d v)))).at h1).mono ?_
  rintro e w' ⟨rfl, h⟩
  exact ⟨⟨_, rfl⟩, l, _, _, _, _, _, h, h2, h3⟩
theorem StoreF.below {th a b d v : Int} (h : StoreF w p x xc r y n R C fr c rs k th a b d v wr) : Below w.heap.size w wr := by
  obtain ⟨l, rd, val, s, e, L, h1, _⟩ := h
  exact h1.below
theorem StoreF.calm {th a b d v : Int} (h : StoreF w p x xc r y n R C fr c rs k th a b d v wr) (hb : Below wr.heap.size wr w') : StoreF w p x xc r y n R C fr c rs k th a b d v w' := by
  obtain ⟨l, rd, val, s, e, L, h1, h2⟩ := h
  exact ⟨l, rd, val, s, e, L, h1.calm (FourF.good _ _ _ _ _ _ _ _ _ _ _ _ _ _ _ _ _ _ _) hb, h2⟩
theorem playF_store2 {th a b d v : Int} (h : StoreF w p x xc r y n R C fr c rs k th a b d v wr) (hk : k ≤ 2999999999000) (hv : I64 v) :
    Calls Try.prog 22 #[.pointer (some ⟨r, 0, none⟩), .int .i64 th, .agg #[.int .i64 a, .int .i64 b, .int .i64 d], .int .i64 v] wr fun e w' => (∃ z, e = .returned (.int .i64 z)) ∧ PlayF w p x xc r y n R C fr c rs (k + 1) w' := by
  obtain ⟨l, rd, val, s, e, L, h1, h2, h3, h4⟩ := h
  refine ((Lifts.right (FStep.good _ _ _ _ _ _ _ _ _ _ _ _ _) (Lifts.left (LstH.good _ _ _ _ _) (rstore_any r R C l (by omega) th a b d v))).at h1).mono ?_
  rintro e w' ⟨rfl, h⟩
  have := putL_len R C l th a b d v
  exact ⟨⟨_, rfl⟩, _, _, _, _, _, _, h, by omega, okW_put h3 th a b d v hv, h4⟩
/-- Behind the program's step, ahead of the reference's. -/
def StepF (w : World) (p x xc r y n R C : Nat) (fr c : Int) (rs : Nat → Int) (k : Nat) (th kd er v : Int) (O : HP → HP) (wr : World) : Prop := ∃ l rd val L l' rd' val' s' e' L', KRel n fr rs true s' e' L' ∧ OkW l' ∧ l'.length ≤ k + 1 ∧
  Lifts Try.prog 23 #[.pointer (some ⟨y, 0, none⟩), .pointer (some ⟨r, 0, none⟩), .int .i64 th] (RFStep r y R C l c rd val n fr rs L) (RFStep r y R C l' c rd' val' n fr rs L') (.returned (.tuple #[.int .i64 kd, .int .i64 er, .int .i64 v])) ∧
  AtW w (O (FourF p x xc r y n R C l' l fr c rs rd' rd val' val s' L)) wr
theorem StepF.below {th kd er v : Int} (h : StepF w p x xc r y n R C fr c rs k th kd er v id wr) : Below w.heap.size w wr := by
  obtain ⟨l, rd, val, L, l', rd', val', s', e', L', _, _, _, _, g⟩ := h
  exact g.below
theorem StepF.box {th kd er v : Int} (h : StepF w p x xc r y n R C fr c rs k th kd er v id wr) (cs : Array Value) (T : TypeId) : StepF w p x xc r y n R C fr c rs k th kd er v (fun O => Star O (BlkH wr.heap.size cs T)) (wr.alloc (.cells cs T)) := by
  obtain ⟨l, rd, val, L, l', rd', val', s', e', L', h1, h2, h3, h4, g⟩ := h
  exact ⟨l, rd, val, L, l', rd', val', s', e', L', h1, h2, h3, h4, AtW.box (FourF.good _ _ _ _ _ _ _ _ _ _ _ _ _ _ _ _ _ _ _) g cs T⟩
theorem playF_step1 (hn1 : 1 ≤ n) (hn2 : n ≤ 16) (hf : 0 ≤ fr) (hc0 : 0 ≤ c) (hrs : Wds rs) (h : PlayF w p x xc r y n R C fr c rs k wr) (hk : k ≤ 2999999999000) (th : Int) :
    Calls Try.prog 13 #[.pointer (some ⟨x, 0, none⟩), .pointer (some ⟨p, 0, none⟩), .int .i64 th] wr fun e w' => ∃ kd er v b, e = .returned (ansV kd er v b) ∧ ((kd = 0 ∧ b = false) ∨ ((kd = 1 ∨ kd = 2 ∨ kd = 3 ∨ kd = 4) ∧ b = true)) ∧ StepF w p x xc r y n R C fr c rs k th kd er v id w' := by
  obtain ⟨l, rd, val, s, e, L, h1, h2, h3, h4⟩ := h
  obtain ⟨l', rd', val', s', e', L', kd, er, v, b, g1, g2, g3, g4, g5, g6⟩ := fet_both p x xc r y n R C hn1 hn2 fr hf c hc0 rs hrs l (by omega) h3 rd val s e L h4 th
  refine ((Lifts.left (RFStep.good _ _ _ _ _ _ _ _ _ _ _ _) g5).at h1).mono ?_
  rintro e w' ⟨rfl, h⟩
  exact ⟨kd, er, v, b, rfl, g4, l, rd, val, L, l', rd', val', s', e', L', g1, g2, by omega, g6, h⟩
theorem playF_step2 {th kd er v : Int} {Q : HP} (gq : Good Q) (h : StepF w p x xc r y n R C fr c rs k th kd er v (fun O => Star O Q) wr) :
    Calls Try.prog 23 #[.pointer (some ⟨y, 0, none⟩), .pointer (some ⟨r, 0, none⟩), .int .i64 th] wr fun e w' => e = .returned (.tuple #[.int .i64 kd, .int .i64 er, .int .i64 v]) ∧ PlayF w p x xc r y n R C fr c rs (k + 1) w' ∧ Has Q w' := by
  obtain ⟨l, rd, val, L, l', rd', val', s', e', L', h1, h2, h3, h4, g⟩ := h
  refine ((Lifts.left gq (Lifts.right (FStep.good _ _ _ _ _ _ _ _ _ _ _ _ _) h4)).at g).mono ?_
  rintro e w' ⟨rfl, h⟩
  exact ⟨rfl, ⟨l', rd', val', s', e', L', h.fst, h3, h2, h1⟩, h.has.right⟩
/-- The logs are compared. -/
theorem playF_logs (h : PlayF w p x xc r y n R C fr c rs k wr) (hk : k ≤ 2999999999000) :
    ∃ l lv, wr.cell? ⟨r, 2, none⟩ = some lv ∧ (∀ o, wr.frozen? ⟨r, o, none⟩ = false) ∧ Calls Try.prog 26 #[.pointer (some ⟨p, 0, none⟩), .int .i64 0] wr (LogGot wr l) ∧
      ∀ v w', w'.ownsRow 0 113 8 v l.length (accCells l) → Below wr.heap.size wr w' → Calls Try.prog 25 #[v, lv] w' fun e w2 => e = .returned (.bool true) ∧ Below w.heap.size w w2 := by
  obtain ⟨l, rd, val, s, e0, L, h1, h2, h3, h4⟩ := h
  have hbel := h1.below
  obtain ⟨F, hM⟩ := h1.has.left.left.left
  obtain ⟨G, lv, g1, g2, g3, g4⟩ := h1.has.right.left
  obtain ⟨_, _, q2, qz⟩ := three_cells g1
  refine ⟨l, lv, q2, qz, log_any p R C l (by omega) wr F hM, fun v w' hv hb => ?_⟩
  refine (accs9_any v lv l (by omega) w' hv (own_calm g2 hb)).mono ?_
  rintro e w2 ⟨rfl, hb2⟩
  exact ⟨rfl, hbel.trans ((hb.trans (hb2.mono hb.size)).mono hbel.size)⟩
end
set_option maxHeartbeats 4000000 in
set_option maxRecDepth 100000 in
theorem fetchPlays_law {w : World} (size fr : Int) (rs : Nat → Int) (c cells ring : Int) (a : Option Addr) (len cap : Nat) (q : Nat → Nat → Int) (hrs : Wds rs) (hg : Grid w a len 6 q) (hlc : len ≤ cap) (hcm : cap ≤ maxLen) (hq : ∀ i j, (Lit.int .i64 (q i j)).wf = true) (hsmall : len ≤ 2932031007402) :
    Calls Try.prog 5 #[.agg #[.int .i64 size, .int .i64 fr, .int .u64 (rs 0), .int .u64 (rs 1), .int .u64 (rs 2), .int .u64 (rs 3), .int .u64 (rs 4), .int .u64 (rs 5), .int .u64 (rs 6), .int .u64 (rs 7), .int .i64 c, .int .i64 cells, .int .i64 ring, .slice a len cap]] w fun e w' => e = .returned (.bool true) ∧ Below w.heap.size w w' := by
  have HG := Lib.hid hg
  have HQ := Lib.hid hq
  unfold maxLen at hcm
  have HB0 : Hid (∀ a b, Below w.heap.size w ((w.alloc a).alloc b)) := fun a b => ((Below.refl _ _).alloc (Nat.le_refl _) _).alloc (by simp) _
  have HBX0 : Hid (∀ (wb : World) a b, Below ((w.alloc a).alloc b).heap.size ((w.alloc a).alloc b) wb → wb.heap[w.heap.size + 1]? = some b) := fun wb a b hb => (hb.block _ (by simp)).trans (by
    have h := heapAlloc (w.alloc a) b
    rwa [World.size_alloc] at h)
  clear hg hq
  have HT := Lib.hid (ftakes_any size fr c)
  by_cases hs : ((1 ≤ size ∧ size ≤ 16) ∧ 0 ≤ fr) ∧ 0 ≤ c ∧ c < 1024
  · obtain ⟨n, rfl⟩ : ∃ n : Nat, size = n := ⟨size.toNat, by omega⟩
    have hn1 : 1 ≤ n := by omega
    have hn2 : n ≤ 16 := by omega
    have hf : 0 ≤ fr := hs.1.2
    have hc0 : 0 ≤ c := hs.2.1
    rw [decide_eq_true hs] at HT
    have HC := Lib.hid (fetNew_any n fr rs hrs c (by omega) (by omega) hf hc0 hs.2.2)
    have HRN := Lib.hid (rfetNew_any n fr rs hrs c)
    have HWS := Lib.hid (withS_wds hrs c)
    unfold FetNew at HC
    unfold RFetNew at HRN
    generalize hall : withS rs c = all at *
    clear hall
    have HT2 := Lib.hid (rtakes_any cells ring)
    by_cases hm : (1 ≤ cells ∧ cells ≤ 1024) ∧ 1 ≤ ring ∧ ring ≤ 16
    · obtain ⟨C, rfl⟩ : ∃ C : Nat, cells = C := ⟨cells.toNat, by omega⟩
      obtain ⟨R, rfl⟩ : ∃ R : Nat, ring = R := ⟨ring.toNat, by omega⟩
      rw [decide_eq_true hm] at HT2
      have HM := Lib.hid (memNew_any C R (by omega) (by omega) (by omega) (by omega))
      have HR := Lib.hid (rmemNew_any C R)
      clear hs hm hrs
      go_enter Try.func5, Try.ntmps5
      go_wp2_with fail
      refine (shown9_any _).mono ?_; rintro e w1 ⟨rfl, hb⟩
      have hbx := HBX0.out _ _ _ hb
      have HBX := Lib.hid hbx
      have B1 := Lib.hid ((HB0.out _ _).trans (hb.mono (by simp; omega)))
      obtain ⟨d0, d1, d2, d3, d4, d5, d6, d7, dz⟩ := blk_facts hbx
      clear hb hbx HBX0
      go_wp2_with fail
      refine (HC.out w1).mono ?_; rintro e w2 ⟨x, xc, rfl, h⟩
      have H2 := Lib.hid h
      clear h d0 d1 d2 d3 d4 d5 d6 d7 dz
      go_wp2_with fail
      refine (HT.out w2).mono ?_; rintro e w' ⟨rfl, rfl⟩
      go_wp2_with fail
      refine (HT2.out w2).mono ?_; rintro e w' ⟨rfl, rfl⟩
      go_wp2_with fail
      refine (HM.out w2).mono ?_; rintro e w3 ⟨p, rfl, h⟩
      have H3 : Hid (AtW w1 (FStep p x xc R C [] n fr c all false 0 ⟨0, fr, 0, 0, 0⟩) w3) := (H2.out.new ((BlkH.good _ _ _).star (BlkH.good _ _ _)) h).imp (fun _ h => h.comm.assocL)
      clear h H2
      go_wp2_with fail
      refine (HR.out w3).mono ?_; rintro e w4 ⟨r, rfl, h⟩
      have H4 := Lib.hid (H3.out.new (FStep.good _ _ _ _ _ _ _ _ _ _ _ _ _) h)
      clear h H3
      obtain ⟨d0, d1, d2, d3, d4, d5, d6, d7, dz⟩ := blk_facts ((H4.out.below.block _ (heap_lt HBX.out)).trans HBX.out)
      go_wp2_with fail
      refine (HRN.out w4).mono ?_; rintro e w5 ⟨y, rfl, h⟩
      have H5 : Hid (PlayF w1 p x xc r y n R C fr c all 0 w5) := ⟨[], false, 0, ⟨0, fr, 0, 0, 0⟩, 0, [], ((H4.out.new ((FStep.good _ _ _ _ _ _ _ _ _ _ _ _ _).star (RMemH.good _ _ _ _)) h).imp (fun _ h => h.assocR)), Nat.zero_le _, okW_nil, ⟨rfl, fun k v h => by simp at h, .inl ⟨rfl, rfl⟩, (fun z hz => by cases hz), (fun h => absurd (show (0 : Int) = 5 from h) (by decide))⟩⟩
      clear h H4 HM HR HT HT2 HC HRN HBX d0 d1 d2 d3 d4 d5 d6 d7 dz
      go_wp2_with fail
      go_loopw [19] (fun i wr => ∃ k : Nat, k ≤ len ∧ i = .int .i64 k ∧ Hid (PlayF w1 p x xc r y n R C fr c all k wr)) (fun i _ => len - (intOf i).toNat)
      case atStart => exact ⟨0, by omega, rfl, H5.out⟩
      case round =>
        obtain ⟨k, hk, rfl, HE⟩ := hrel
        clear H5
        by_cases hlt : k < len
        · obtain ⟨b, off, rfl, hbw, hcell⟩ := HG.out.resolve_left (by omega)
          have hbel := B1.out.trans (HE.out.below.mono B1.out.size)
          have c0 := (hbel.cell (p := ⟨b, off + k * 6 + 0, none⟩) hbw).trans (hcell k hlt 0 (by omega))
          simp only [Nat.add_zero] at c0
          by_cases h1 : q k 0 = 1
          · rw [h1] at c0
            have c2 := (hbel.cell (p := ⟨b, off + k * 6 + 2, none⟩) hbw).trans (hcell k hlt 2 (by omega))
            have c3 := (hbel.cell (p := ⟨b, off + k * 6 + 3, none⟩) hbw).trans (hcell k hlt 3 (by omega))
            have c4 := (hbel.cell (p := ⟨b, off + k * 6 + 4, none⟩) hbw).trans (hcell k hlt 4 (by omega))
            have c5 := (hbel.cell (p := ⟨b, off + k * 6 + 5, none⟩) hbw).trans (hcell k hlt 5 (by omega))
            have HX := Lib.hid (playF_store1 (HE.out.calm ((Below.refl _ _).drew)) (by omega) (-1) (q k 2) (q k 3) (q k 4) (q k 5))
            clear h1
            go_wp2_with fail
            go_still_tail 11, (by kernel_rfl)
            change wpList _ _ _ _ _ wr.drew
            go_wp2_with fail
            refine HX.out.mono ?_; rintro e w6 ⟨⟨z, rfl⟩, h⟩
            have H5 := Lib.hid h
            have hbel5 := B1.out.trans (h.below.mono B1.out.size)
            clear h HX c0 c2 c3 c4 c5 hbel
            have c2 := (hbel5.cell (p := ⟨b, off + k * 6 + 2, none⟩) hbw).trans (hcell k hlt 2 (by omega))
            have c3 := (hbel5.cell (p := ⟨b, off + k * 6 + 3, none⟩) hbw).trans (hcell k hlt 3 (by omega))
            have c4 := (hbel5.cell (p := ⟨b, off + k * 6 + 4, none⟩) hbw).trans (hcell k hlt 4 (by omega))
            have c5 := (hbel5.cell (p := ⟨b, off + k * 6 + 5, none⟩) hbw).trans (hcell k hlt 5 (by omega))
            have HX := Lib.hid (playF_store2 (H5.out.calm ((Below.refl _ _).drew)) (by omega) (I64.of_wf (HQ.out k 5)))
            clear hcell hbel5 H5
            go_wp2_with fail
            go_still_tail 11, (by kernel_rfl)
            change wpList _ _ _ _ _ w6.drew
            go_wp2_with fail
            refine HX.out.mono ?_; rintro e w7 ⟨⟨z, rfl⟩, h⟩
            have H6 := Lib.hid h
            clear h HX c2 c3 c4 c5
            go_wp2_with fail
            go_roundw
            case rel => exact ⟨k + 1, by omega, by go_num, H6.out⟩
            case measure => simp [intOf]; omega
          · have e1 : (q k 0 == 1) = false := by simp [h1]
            by_cases h2 : q k 0 = 2
            · rw [h2] at c0
              have c1 := (hbel.cell (p := ⟨b, off + k * 6 + 1, none⟩) hbw).trans (hcell k hlt 1 (by omega))
              have HX := Lib.hid (playF_step1 hn1 hn2 hf hc0 HWS.out HE.out (by omega) (q k 1))
              clear e1 h1 h2
              go_wp2_with fail
              refine HX.out.mono ?_; rintro e w6 ⟨kd, er, v, bb, rfl, hkd, h⟩
              have hbel5 := B1.out.trans (h.below.mono B1.out.size)
              have H5 := Lib.hid (h.box #[.int .i64 kd, .int .i64 er, .int .i64 v, .bool bb] 49)
              have c1' := (hbel5.cell (p := ⟨b, off + k * 6 + 1, none⟩) hbw).trans (hcell k hlt 1 (by omega))
              have hb5 : b < w6.heap.size := Nat.lt_of_lt_of_le hbw hbel5.size
              clear h HX c0 c1 hbel hbel5
              unfold ansV
              go_wp2_with fail
              refine (playF_step2 (BlkH.good _ _ _) H5.out).mono ?_; rintro e w7 ⟨rfl, h, hbx⟩
              have H6 := Lib.hid h
              obtain ⟨z0, z1, z2, z3, _⟩ := four_cells hbx.blk
              clear h hbx H5 c1' hb5 hcell
              rcases hkd with ⟨rfl, rfl⟩ | ⟨rfl | rfl | rfl | rfl, rfl⟩
              all_goals
                go_wp2_with fail
                go_roundw
                case rel => exact ⟨k + 1, by omega, by go_num, H6.out⟩
                case measure => simp [intOf]; omega
            · have e2 : (q k 0 == 2) = false := by simp [h2]
              by_cases h3 : q k 0 = 3
              · have e3 : (q k 0 == 3) = true := by simp [h3]
                clear h1 h2 h3 hcell
                go_wp2_with fail
                refine (playF_tells hn1 hn2 hf HE.out).mono ?_; rintro e w6 ⟨rfl, h⟩
                have H6 := Lib.hid h.up
                clear h
                go_wp2_with fail
                go_roundw
                case rel => exact ⟨k + 1, by omega, by go_num, H6.out⟩
                case measure => simp [intOf]; omega
              · have e3 : (q k 0 == 3) = false := by simp [h3]
                have H6 := Lib.hid HE.out.up
                clear h1 h2 h3 hcell
                go_wp2_with fail
                go_roundw
                case rel => exact ⟨k + 1, by omega, by go_num, H6.out⟩
                case measure => simp [intOf]; omega
        · obtain rfl : k = len := by omega
          go_wp2_with fail
          refine (playF_tells hn1 hn2 hf HE.out).mono ?_; rintro e w6 ⟨rfl, h⟩
          have H5 := Lib.hid (h.calm ((Below.refl _ _).drew))
          clear h HE
          obtain ⟨l, lv, q2, qz, HLG, HAC⟩ := playF_logs H5.out (by omega)
          have HLG := Lib.hid HLG
          have HAC := Lib.hid HAC
          have hrl : r < w6.drew.heap.size := World.block_lt_of_cell? _ _ q2
          go_wp2_with fail
          go_region_law (first | (go_simp; go_at_call 26; refine HLG.out.mono ?_; rintro e wl ⟨v, rfl, hv, hb⟩; have ql := (hb.cell (p := ⟨r, 2, none⟩) hrl).trans q2) | (go_simp; go_at_call 25; refine (HAC.out _ _ hv hb).mono ?_; rintro e w7 ⟨rfl, h7⟩))
          all_goals
            have H7 := Lib.hid h7
            clear h7 hv hb ql
            go_wp2_with fail
            go_ret
            exact ⟨rfl, B1.out.trans (H7.out.mono B1.out.size)⟩
    · rw [decide_eq_false hm] at HT2
      clear hs hm hrs
      go_enter Try.func5, Try.ntmps5
      go_wp2_with fail
      refine (shown9_any _).mono ?_; rintro e w1 ⟨rfl, hb⟩
      have hbx := HBX0.out _ _ _ hb
      have B1 := Lib.hid ((HB0.out _ _).trans (hb.mono (by simp; omega)))
      obtain ⟨d0, d1, d2, d3, d4, d5, d6, d7, dz⟩ := blk_facts hbx
      clear hb hbx HBX0
      go_wp2_with fail
      refine (HC.out w1).mono ?_; rintro e w2 ⟨x, xc, rfl, h⟩
      have H2 := Lib.hid (B1.out.trans (h.below.mono B1.out.size))
      clear h d0 d1 d2 d3 d4 d5 d6 d7 dz
      go_wp2_with fail
      refine (HT.out w2).mono ?_; rintro e w' ⟨rfl, rfl⟩
      go_wp2_with fail
      refine (HT2.out w2).mono ?_; rintro e w' ⟨rfl, rfl⟩
      go_wp2_with fail
      go_ret
      exact ⟨rfl, H2.out⟩
  · rw [decide_eq_false hs] at HT
    have HC := Lib.hid (fetNew_bad size fr rs hrs c hs)
    clear hs hrs
    go_enter Try.func5, Try.ntmps5
    go_wp2_with fail
    refine (shown9_any _).mono ?_; rintro e w1 ⟨rfl, hb⟩
    have hbx := HBX0.out _ _ _ hb
    have B1 := Lib.hid ((HB0.out _ _).trans (hb.mono (by simp; omega)))
    obtain ⟨d0, d1, d2, d3, d4, d5, d6, d7, dz⟩ := blk_facts hbx
    clear hb hbx HBX0
    go_wp2_with fail
    refine (HC.out w1).mono ?_; rintro e w2 ⟨rfl, hb⟩
    have H2 := Lib.hid (B1.out.trans (hb.mono B1.out.size))
    clear hb d0 d1 d2 d3 d4 d5 d6 d7 dz
    go_wp2_with fail
    refine (HT.out w2).mono ?_; rintro e w' ⟨rfl, rfl⟩
    go_wp2_with fail
    go_ret
    exact ⟨rfl, H2.out⟩
end Go.Proofs.Ytcbjbmbibnmohaa
