/- Layer 9: both fetch machines make one step; the law's helpers. -/
import Derived.Test.YtcbjbmbibnmohaaC9
import Derived.Test.YtcbjbmbibnmohaaC9b
import Derived.Test.YtcbjbmbibnmohaaC9c
namespace Go.Proofs.Ytcbjbmbibnmohaa
open Go.RowKit
set_option linter.unusedVariables false
theorem Looks.pre {P : Program} {f : FuncId} {args : Array Value} {O O' : HP} {v : Ending} (h : ∀ w, Has O w → Has O' w) (k : Looks P f args O' v) : Looks P f args O v := by
  intro w F hO
  obtain ⟨F', h'⟩ := h w ⟨F, hO⟩
  exact k w F' h'
theorem Has.tail {A B C : HP} {w : World} (h : Has (Star (Star A B) C) w) : Has (Star B C) w := by
  obtain ⟨F, F1, FC, ⟨FA, FB, ha, hb, h1, h2⟩, hc, h3, h4⟩ := h
  exact ⟨fun b => FB b ∨ FC b, FB, FC, hb, hc, fun _ => Iff.rfl, fun b k1 k2 => h4 b ((h1 b).2 (.inr k1)) k2⟩
theorem Star.assocL {A B C : HP} {w : World} {F : Nat → Prop} (h : Star A (Star B C) w F) : Star (Star A B) C w F := by
  obtain ⟨FM, FC, hM, ⟨FA, FB, ha, hb, h1, h2⟩, h3, h4⟩ := h
  exact ⟨fun b => FM b ∨ FA b, FB, ⟨FM, FA, hM, ha, fun _ => Iff.rfl, fun b k1 k2 => h4 b k1 ((h1 b).2 (.inl k2))⟩, hb, fun b => by rw [h3 b, h1 b, or_assoc], fun b k1 k2 => k1.elim (fun k => h4 b k ((h1 b).2 (.inr k2))) (fun k => h2 b k k2)⟩
theorem Star.assocR {A B C : HP} {w : World} {F : Nat → Prop} (h : Star (Star A B) C w F) : Star A (Star B C) w F := by
  obtain ⟨F1, FC, ⟨FA, FB, ha, hb, h1, h2⟩, hc, h3, h4⟩ := h
  exact ⟨FA, fun b => FB b ∨ FC b, ha, ⟨FB, FC, hb, hc, fun _ => Iff.rfl, fun b k1 k2 => h4 b ((h1 b).2 (.inr k1)) k2⟩, fun b => by rw [h3 b, h1 b, or_assoc], fun b k1 k2 => k2.elim (fun k => h2 b k1 k) (fun k => h4 b ((h1 b).2 (.inl k1)) k)⟩
theorem fet_both (p x xc r y n ring cells : Nat) (hn1 : 1 ≤ n) (hn2 : n ≤ 16) (fr : Int) (hf : 0 ≤ fr) (c : Int) (hc0 : 0 ≤ c) (rs : Nat → Int) (hrs : Wds rs) (l : List Acc) (hlen : l.length ≤ 10000000000) (hok : OkW l) (rd : Bool) (val : Int) (s : CS) (e0 : Int) (L : List Int) (h4 : KRel n fr rs true s e0 L) (th : Int) :
    ∃ l' rd' val' s' e' L' kd er v b, KRel n fr rs true s' e' L' ∧ OkW l' ∧ l'.length ≤ l.length + 1 ∧ ((kd = 0 ∧ b = false) ∨ ((kd = 1 ∨ kd = 2 ∨ kd = 3 ∨ kd = 4) ∧ b = true)) ∧
      Lifts Try.prog 13 #[.pointer (some ⟨x, 0, none⟩), .pointer (some ⟨p, 0, none⟩), .int .i64 th] (FStep p x xc ring cells l n fr c rs rd val s) (FStep p x xc ring cells l' n fr c rs rd' val' s') (.returned (ansV kd er v b)) ∧
      Lifts Try.prog 23 #[.pointer (some ⟨y, 0, none⟩), .pointer (some ⟨r, 0, none⟩), .int .i64 th] (RFStep r y ring cells l c rd val n fr rs L) (RFStep r y ring cells l' c rd' val' n fr rs L') (.returned (.tuple #[.int .i64 kd, .int .i64 er, .int .i64 v])) := by
  by_cases hx : ring ≠ n ∨ (cells : Int) ≤ c
  · exact ⟨l, rd, val, s, e0, L, 0, 0, 0, false, h4, hok, by omega, .inl ⟨rfl, rfl⟩, Looks.lifts (FStep.good _ _ _ _ _ _ _ _ _ _ _ _ _) (fetStep_none p x xc ring cells l n fr c rs rd val s th hx), Looks.lifts (RFStep.good _ _ _ _ _ _ _ _ _ _ _ _) (rfetStep_none r y ring cells l c rd val n fr rs L th hx)⟩
  · obtain rfl : ring = n := by omega
    have hc1 : c < cells := by omega
    cases rd with
    | false =>
      exact ⟨_, true, _, s, e0, L, 2, 0, 0, true, h4, okW_ld hok _ _ _ _ _, by simp, .inr ⟨.inr (.inl rfl), rfl⟩, fetStep_read p x xc ring cells l (by omega) fr c hc0 hc1 rs val s th, rfetStep_read r y ring cells l (by omega) c hc0 hc1 val fr rs L th⟩
    | true =>
      obtain ⟨l', s', e', L', kd, er, b, kb, HA, HB⟩ := chk_both 111 (f9 c true val ring fr rs) p xc r y ring cells hn1 hn2 fr hf rs hrs true (f9_off c true val ring fr rs) l hlen hok s e0 L h4 th
      have ka : (kd = 0 ∧ b = false) ∨ ((kd = 1 ∨ kd = 2 ∨ kd = 3 ∨ kd = 4) ∧ b = true) := kb.ans.imp (fun h => ⟨h.1, h.2.1⟩) id
      by_cases hk : kd = 3
      · subst hk
        exact ⟨l', true, val, s', e', L', 3, er, val, b, kb.rel, kb.okw, kb.len, ka, fetStep_done p x xc ring cells l _ (CStep.good _ _ _ _ _ _ _ _ _ _) er b fr c hc1 rs val s th HA,
          rfetStep_done r y ring cells l _ (RCStep.good _ _ _ _ _ _ _ _) er c hc1 val fr rs L th (fun w h => by
            obtain ⟨_, lv, g, _⟩ := h.right
            exact ⟨(rfet_cells g).2.2.1, (rfet_cells g).2.2.2.2⟩) HB⟩
      · exact ⟨l', true, val, s', e', L', kd, er, 0, b, kb.rel, kb.okw, kb.len, ka, fetStep_on p x xc ring cells l _ (CStep.good _ _ _ _ _ _ _ _ _ _) kd er hk b fr c hc1 rs val s th HA, rfetStep_on r y ring cells l _ (RCStep.good _ _ _ _ _ _ _ _) kd er hk c hc1 val fr rs L th HB⟩
theorem fetStart_any (x xc : Nat) (size fr c : Int) (rs : Nat → Int) (rd : Bool) (val : Int) (s : CS) (a b : Int) (t : Bool) (hS : Looks Try.prog 39 #[.pointer (some ⟨xc, 0, none⟩)] (ChkH xc size fr rs true s) (.returned (.tuple #[.int .i64 a, .int .i64 b, .bool t]))) :
    Looks Try.prog 15 #[.pointer (some ⟨x, 0, none⟩)] (Star (ChkH xc size fr rs true s) (FetH x xc size c rs rd val)) (.returned (.tuple #[.int .i64 a, .int .i64 b, .bool t])) := by
  rintro w F hO
  have HS := Lib.hid (Looks.left (B := FetH x xc size c rs rd val) hS w F hO)
  obtain ⟨_, _, _, ⟨hb, _⟩, _⟩ := hO
  obtain ⟨c0, c1, c2, c3, c4, c5, c6, c7, c8, c9, c10, c11, c12, fz⟩ := fet_cells hb
  clear hb hS c1 c2 c3 c4 c5 c6 c7 c8 c9 c10 c11 c12
  go_enter Try.func15, Try.ntmps15
  go_wp2_with fail
  refine HS.out.mono ?_
  rintro e w1 ⟨rfl, hb⟩
  have HB := Lib.hid hb
  clear hb HS
  go_wp2_with fail
  refine bodyPost_ret (v := _) (by simp [results, Try.results15, go_sem]; rfl) rfl ?_
  exact ⟨rfl, HB.out⟩
theorem fetReads_any (x xc : Nat) (size c : Int) (rs : Nat → Int) (rd : Bool) (val : Int) :
    Looks Try.prog 46 #[.pointer (some ⟨x, 0, none⟩)] (FetH x xc size c rs rd val) (.returned (.agg #[.int .u64 (rs 0), .int .u64 (rs 1), .int .u64 (rs 2), .int .u64 (rs 3), .int .u64 (rs 4), .int .u64 (rs 5), .int .u64 (rs 6), .int .u64 (rs 7)])) := by
  rintro w F ⟨hb, _⟩
  obtain ⟨c0, c1, c2, c3, c4, c5, c6, c7, c8, c9, c10, c11, c12, fz⟩ := fet_cells hb
  have hx := heap_lt hb
  have hne : x ≠ w.heap.size := by omega
  have hne2 : w.heap.size ≠ x := by omega
  clear hb c0 c1 c2 c11 c12
  go_enter Try.func46, Try.ntmps46
  go_wp2_with fail
  refine bodyPost_ret (v := _) (by simp [results, Try.results46, go_sem]; rfl) rfl ?_
  exact ⟨rfl, (Below.refl _ _).alloc (Nat.le_refl _) _⟩
set_option maxHeartbeats 1000000 in
theorem accs9_any (v u : Value) (l : List Acc) (hlen : l.length ≤ 100000000000) (w : World) (hx : w.ownsRow 0 113 8 v l.length (accCells l)) (hy : w.ownsRow 0 113 8 u l.length (accCells l)) :
    Calls Try.prog 25 #[v, u] w fun e w' => e = .returned (.bool true) ∧ Below w.heap.size w w' := by
  obtain ⟨a, ca, rfl⟩ := ownAt_form hx
  obtain ⟨b, cb, rfl⟩ := ownAt_form hy
  have HX := Lib.hid hx
  have HY := Lib.hid hy
  obtain ⟨n, hn⟩ : ∃ n, l.length = n := ⟨_, rfl⟩
  have HN := Lib.hid hn
  rw [hn] at hlen
  rw [hn]
  clear hx hy hn
  go_enter Try.func25, Try.ntmps25
  go_wp2_with fail
  go_loopw [5] (fun i wr => ∃ k : Nat, k ≤ n ∧ i = .int .i64 k ∧ Hid (Below w.heap.size w wr)) (fun i _ => n - (intOf i).toNat)
  case atStart => exact ⟨0, by omega, rfl, Below.refl _ _⟩
  case round =>
    obtain ⟨k, hk, rfl, HB⟩ := hrel
    by_cases hlt : k < n
    · obtain ⟨⟨th, kd, ak, ai, aj, old, val, yes⟩, hxk⟩ : ∃ x, l[k]? = some x := ⟨_, List.getElem?_eq_getElem (by rw [HN.out]; exact hlt)⟩
      obtain ⟨g, c, he, c0, c1, c2, c3, c4, c5, c6, c7⟩ := rmem_acc (own_calm HX.out HB.out) hxk
      rw [HN.out] at he
      obtain ⟨rfl, rfl⟩ : a = some ⟨g, 0, none⟩ ∧ ca = c := by simp at he; exact ⟨he.1, he.2⟩
      obtain ⟨g2, c', he2, d0, d1, d2, d3, d4, d5, d6, d7⟩ := rmem_acc (own_calm HY.out HB.out) hxk
      rw [HN.out] at he2
      obtain ⟨rfl, rfl⟩ : b = some ⟨g2, 0, none⟩ ∧ cb = c' := by simp at he2; exact ⟨he2.1, he2.2⟩
      have hE := eqAcc th kd ak ai aj old val yes
      clear he he2 hxk
      go_wp2_with fail
      go_quiet (fail)
      go_wp2_with fail
      go_roundw
      case rel => exact ⟨k + 1, by omega, by go_num, below_drewN HB.out _⟩
      case measure => simp [intOf]; omega
    · obtain rfl : k = n := by omega
      go_wp2_with fail
      go_ret
      exact ⟨rfl, HB.out⟩
/-- The machines alone. -/
abbrev TwoF (x xc y n : Nat) (fr c : Int) (rs : Nat → Int) (rd : Bool) (val : Int) (s : CS) (L : List Int) : HP := Star (Star (ChkH xc n fr rs true s) (FetH x xc n c rs rd val)) (RFetH y c rd val n fr rs L)
set_option maxHeartbeats 1000000 in
theorem tells9_any (x xc y n : Nat) (hn1 : 1 ≤ n) (hn2 : n ≤ 16) (fr : Int) (hf : 0 ≤ fr) (c : Int) (rs : Nat → Int) (rd : Bool) (val : Int) (s : CS) (e0 : Int) (L : List Int) (hr : KRel n fr rs true s e0 L) :
    Looks Try.prog 24 #[.pointer (some ⟨x, 0, none⟩), .pointer (some ⟨y, 0, none⟩)] (TwoF x xc y n fr c rs rd val s L) (.returned (.bool true)) := by
  rintro w F hO
  have hl := hr.inv.len hn2
  have hE := fun w => (run_sig_eq (rs 0) (rs 1) (rs 2) (rs 3) (rs 4) (rs 5) (rs 6) (rs 7) (rs 0) (rs 1) (rs 2) (rs 3) (rs 4) (rs 5) (rs 6) (rs 7) w)
  simp only [beq_self_eq_true, Bool.and_self] at hE
  have GA := Lib.hid ((BlkH.good xc (chkC n fr rs true s) 122).star (BlkH.good x (fetC xc n c rs rd val) 102))
  have HG := Lib.hid (GA.out.star (LstH.good y (f9 c rd val n fr rs) 111 2 L))
  have HO := Lib.hid hO
  obtain ⟨a, b, t, H1, H2⟩ : ∃ a b t, Looks Try.prog 39 #[.pointer (some ⟨xc, 0, none⟩)] (ChkH xc n fr rs true s) (.returned (.tuple #[.int .i64 a, .int .i64 b, .bool t])) ∧ Looks Try.prog 45 #[.pointer (some ⟨y, 3, none⟩)] (RFetH y c rd val n fr rs L) (.returned (.tuple #[.int .i64 a, .int .i64 b, .bool t])) := by
    by_cases h2 : s.st = 4
    · have hp := hr.rep ▸ planK_4 (size := n) (e := e0) h2
      exact ⟨_, _, _, chkStart_yes xc n fr rs true s h2, rchkStart_yes y n hn1 hn2 fr hf rs true (f9_off c rd val n fr rs) L hr.num (by omega) hr.ok _ _ _ _ _ _ hp⟩
    · refine ⟨_, _, _, chkStart_no xc n fr rs true s h2, ?_⟩
      by_cases h4 : 4 ≤ s.st
      · exact rchkStart_no y n hn1 hn2 fr hf rs true (f9_off c rd val n fr rs) L hr.num (by omega) hr.ok _ _ _ _ _ _ _ _ (hr.rep ▸ planK_5 h4 h2) (.inr (hr.err (hr.inv.st h4 h2)))
      · exact rchkStart_no y n hn1 hn2 fr hf rs true (f9_off c rd val n fr rs) L hr.num (by omega) hr.ok _ _ _ _ _ _ _ _ (hr.rep ▸ planK_on (by omega) rfl) (.inl rfl)
  have HA := Lib.hid (Looks.left (B := RFetH y c rd val n fr rs L) (fetStart_any x xc n fr c rs rd val s a b t H1))
  have HB := Lib.hid (Looks.right (A := Star (ChkH xc n fr rs true s) (FetH x xc n c rs rd val)) H2)
  have HC := Lib.hid (Looks.left (B := RFetH y c rd val n fr rs L) (Looks.right (A := ChkH xc n fr rs true s) (fetReads_any x xc n c rs rd val)))
  clear hO hr hl H1 H2
  go_enter Try.func24, Try.ntmps24
  go_wp2_with fail
  refine (HA.out w F HO.out).mono ?_
  rintro e w1 ⟨rfl, h⟩
  have H1 := Lib.hid h
  clear h
  go_wp2_with fail
  refine (HB.out w1 F (HG.out.calm HO.out H1.out)).mono ?_
  rintro e w2 ⟨rfl, h⟩
  have H2 : Hid (Below w.heap.size w w2) := H1.out.trans (h.mono H1.out.size)
  clear h
  go_wp2_with fail
  refine (HC.out w2 F (HG.out.calm HO.out H2.out)).mono ?_
  rintro e w3 ⟨rfl, h⟩
  have H3 : Hid (Below w.heap.size w w3) := H2.out.trans (h.mono H2.out.size)
  clear h
  obtain ⟨lv, g⟩ : ∃ lv, w3.heap[y]? = some (.cells (f9 c rd val n fr rs lv) 111) := by
    obtain ⟨_, _, _, ⟨lv, g, _⟩, _⟩ := HG.out.calm HO.out H3.out
    exact ⟨lv, g⟩
  have hyl := heap_lt g
  have hne : y ≠ w3.heap.size := by omega
  obtain ⟨_, _, rd8, _, _, fz⟩ := rchk_cells (f9_off c rd val n fr rs) g
  have d0 := rd8 0 (by decide)
  have d1 := rd8 1 (by decide)
  have d2 := rd8 2 (by decide)
  have d3 := rd8 3 (by decide)
  have d4 := rd8 4 (by decide)
  have d5 := rd8 5 (by decide)
  have d6 := rd8 6 (by decide)
  have d7 := rd8 7 (by decide)
  simp only [Nat.add_zero, Nat.reduceAdd] at d0 d1 d2 d3 d4 d5 d6 d7
  clear g rd8 HA HB HC
  go_wp2_with fail
  go_quiet (fail)
  go_wp2_with fail
  go_ret
  exact ⟨rfl, below_drewN (H3.out.alloc H3.out.size _) _⟩
end Go.Proofs.Ytcbjbmbibnmohaa
