/- Layer 11: Step where nothing is to be done; a step of whatever numbers. -/
import Derived.Test.YtlmnljijpgpmiaaC11d
namespace Go.Proofs.Ytlmnljijpgpmiaa
open Go.RowKit
set_option linter.unusedVariables false
/-- The machine beside whatever memory. -/
abbrev KBo (p x ring cells : Nat) (d : BD) (l : List Acc) (b : BK) : HP := Star (MemH p ring cells l) (Star (RowH d.lv d.W) (BakH x d b))
theorem KBo.good (p x ring cells : Nat) (d : BD) (l : List Acc) (b : BK) : Good (KBo p x ring cells d l b) := (MemH.good _ _ _ _).star ((RowH.good _ _).star (BlkH.good _ _ _))
set_option maxRecDepth 100000 in
set_option maxHeartbeats 2000000 in
theorem bakStep_nil (p x ring cells : Nat) (d : BD) (l : List Acc) (b : BK) (th : Int) (h0 : b.nx = 0) :
    Looks Try.prog 11 #[.pointer (some ⟨x, 0, none⟩), .pointer (some ⟨p, 0, none⟩), .int .i64 th] (KBo p x ring cells d l b) (.returned (ansV 0 0 0 false)) := by
  rintro w F hO
  have hR := bak_cells (Stp.refl hO).has.right.right.blk
  have c18 := hR.c18
  rw [h0] at c18
  have fz := hR.fz
  have hen := eq_nilFunc0
  have hxlt : x < w.heap.size := heap_lt (Stp.refl hO).has.right.right.blk
  have hne : x ≠ w.heap.size := by omega
  have hne2 : w.heap.size ≠ x := by omega
  have c18' : w.cell? ⟨x, 18, none⟩ = some .nilFunc := c18
  have HB : Hid (∀ o, Below w.heap.size w (w.alloc o)) := fun o => (Below.refl _ _).alloc (Nat.le_refl _) _
  clear hO hR c18 h0
  go_enter Try.func11, Try.ntmps11
  go_wp2_with fail
  refine bodyPost_ret (v := _) (by simp [results, Try.results11, go_sem]; rfl) rfl ?_
  exact ⟨rfl, HB.out _⟩
set_option maxRecDepth 100000 in
set_option maxHeartbeats 2000000 in
theorem bakStep_off (p x ring cells : Nat) (d : BD) (l : List Acc) (b : BK) (th : Int) (h0 : b.nx ≠ 0) (hr : ring ≠ d.n ∨ (d.W ≠ [] ∧ (cells : Int) ≤ d.most)) :
    Looks Try.prog 11 #[.pointer (some ⟨x, 0, none⟩), .pointer (some ⟨p, 0, none⟩), .int .i64 th] (KBo p x ring cells d l b) (.returned (ansV 0 0 0 false)) := by
  rintro w F hO
  have H0 := Lib.hid ((Stp.refl hO).box (KBo.good _ _ _ _ _ _ _) #[.int .i64 0, .int .i64 0, .int .i64 0, .bool false] 46)
  have HG := Lib.hid ((KBo.good p x ring cells d l b).star (BlkH.good w.heap.size #[.int .i64 0, .int .i64 0, .int .i64 0, .bool false] 46))
  have HS := Lib.hid (Looks.left (B := BlkH w.heap.size #[.int .i64 0, .int .i64 0, .int .i64 0, .bool false] 46) (Looks.left (B := Star (RowH d.lv d.W) (BakH x d b)) (sizes_any p ring cells l)))
  have hsz : Hid (w.heap.size ≤ (w.alloc (.cells #[.int .i64 0, .int .i64 0, .int .i64 0, .bool false] 46)).heap.size ∧ Below w.heap.size w (w.alloc (.cells #[.int .i64 0, .int .i64 0, .int .i64 0, .bool false] 46))) := ⟨by simp, (Below.refl _ _).alloc (Nat.le_refl _) _⟩
  have hR := bak_cells (Stp.refl hO).has.right.right.blk
  have k18 := hR.c18
  have kz := hR.fz
  have hV : ∃ fn first cap, nxV x b.nx = .func fn first cap := ⟨_, _, _, if_neg h0⟩
  obtain ⟨fn, first, cap, hV⟩ := hV
  rw [hV] at k18
  have HV := Lib.hid hV
  have hxlt : x < w.heap.size := heap_lt (Stp.refl hO).has.right.right.blk
  have hne : x ≠ w.heap.size := by omega
  have hne2 : w.heap.size ≠ x := by omega
  obtain ⟨F2, hrow, _⟩ := (Stp.refl hO).has.right.left
  obtain ⟨lb, lc, hlv⟩ := ownAt_form hrow
  have HLV := Lib.hid hlv
  have hen := eq_nilFunc
  clear hO hR h0 hV hrow hlv
  go_enter Try.func11, Try.ntmps11
  go_wp2_with fail
  obtain ⟨F1, hF1⟩ := H0.out.has
  have H1' := HS.out _ F1 hF1
  refine H1'.mono ?_
  rintro e w1 ⟨rfl, hb⟩
  have HB : Hid (Below w.heap.size w w1) := hsz.out.2.trans (hb.mono hsz.out.1)
  have H1 := H0.out.below HG.out hb
  obtain ⟨c0, c2, c3, rd, c12, c13, c14, c15, c16, c17, c18, fz⟩ := bak_cells H1.has.left.right.right.blk
  rw [HLV.out] at c3
  obtain ⟨r0, r1, r2, r3, rz⟩ := four_cells H1.has.right.blk
  clear hb H1 H1' hF1 H0 HS HG hsz rd k18 kz
  by_cases hn : ring = d.n
  · have hr2 := hr.resolve_left (fun h => h hn)
    have e1 : ((ring : Int) != (d.n : Int)) = false := by rw [hn]; simp
    have h0 : (0 : Int) < (d.W.length : Int) := by
      have := List.length_pos_iff.2 hr2.1
      omega
    have hd2 : ¬ d.most < (cells : Int) := by omega
    clear hr hr2 hn
    go_wp2_with fail
    refine bodyPost_ret (v := _) (by simp [results, Try.results11, go_sem, r0, r1, r2, r3]; rfl) rfl ?_
    exact ⟨rfl, (((HB.out.setCell (Nat.le_refl _) _).setCell (Nat.le_refl _) _).setCell (Nat.le_refl _) _).setCell (Nat.le_refl _) _⟩
  · have e1 : ((ring : Int) != (d.n : Int)) = true := by simp; omega
    clear hr hn
    go_wp2_with fail
    refine bodyPost_ret (v := _) (by simp [results, Try.results11, go_sem, r0, r1, r2, r3]; rfl) rfl ?_
    exact ⟨rfl, (((HB.out.setCell (Nat.le_refl _) _).setCell (Nat.le_refl _) _).setCell (Nat.le_refl _) _).setCell (Nat.le_refl _) _⟩
/-- A step of whatever numbers. -/
theorem bakStep_any (p x cells : Nat) (d : BD) (hd : BDOk d) (l : List Acc) (hlen : l.length ≤ 3000000000000) (b : BK) (hb : BKOk d.n d.st d.s d.W b) (h0 : b.nx ≠ 0) (hm : d.W.length = 0 ∨ d.most < cells) (hc : ∀ y ∈ d.W, 0 ≤ y.1 ∧ y.1 < (cells : Int)) (th v : Int) (hvI : I64 v)
    (hV : wordOf l (addrK11 d.n d.st d.W b).1 (addrK11 d.n d.st d.W b).2.1 (addrK11 d.n d.st d.W b).2.2 = v) :
    Lifts Try.prog 11 #[.pointer (some ⟨x, 0, none⟩), .pointer (some ⟨p, 0, none⟩), .int .i64 th] (KB p x cells d l b) (KB p x cells d (l ++ [accK d.n d.st d.s d.W b th v]) (stepB11 d.n d.st d.s b v).1) (.returned (ansV (stepB11 d.n d.st d.s b v).2 0 0 true)) := by
  have hx := hb.nx
  have H : ∀ (f : FuncId) (b' : BK) (l' : List Acc) (kd : Int), f = nxF b.nx → (f = 26 ∨ f = 58 ∨ f = 72 ∨ f = 73 ∨ f = 55 ∨ f = 56 ∨ f = 57) →
      Lifts Try.prog f #[.pointer (some ⟨x, 0, none⟩), .pointer (some ⟨p, 0, none⟩), .int .i64 th] (KB p x cells d l b) (KB p x cells d l' b') (.returned (.int .i64 kd)) →
      Lifts Try.prog 11 #[.pointer (some ⟨x, 0, none⟩), .pointer (some ⟨p, 0, none⟩), .int .i64 th] (KB p x cells d l b) (KB p x cells d l' b') (.returned (ansV kd 0 0 true)) := by
    intro f b' l' kd hf hfs hL
    exact bakStep_on p x cells d l b _ (KB.good _ _ _ _ _ _) kd th f (by unfold nxV; rw [if_neg h0, hf]) hfs hm hL
  unfold addrK11 at hV
  unfold stepB11 accK addrK11 valK
  by_cases h1 : b.nx = 1
  · simp only [h1, true_or, if_pos] at hV ⊢
    by_cases h8 : b.laid < 8
    · simp only [h8, if_true] at hV ⊢
      have e := bakLays_word p x cells d hd l hlen b h8 th
      rw [h1] at e
      exact H 26 _ _ _ (by rw [h1]; try rfl) (.inl rfl) e
    · have h8' : b.laid = 8 := by have := hb.laid; omega
      simp only [h8, if_false] at hV ⊢
      cases hk : b.known
      · simp only [Bool.false_eq_true, if_false]
        exact H 26 _ _ _ (by rw [h1]; try rfl) (.inl rfl) (bakLays_older p x cells d hd l hlen b h8' hk th)
      · simp only [if_true]
        exact H 26 _ _ _ (by rw [h1]; try rfl) (.inl rfl) (bakLays_known p x cells d hd l hlen b h8' hk th)
  by_cases h2 : b.nx = 2
  · obtain ⟨hs, hk⟩ := hb.look (.inl h2)
    simp [h2] at hV ⊢
    cases ho : overB v b.sp
    · cases hl : laidB v b.sp
      · simp
        exact H 58 _ _ _ (by rw [h2]; try rfl) (.inr (.inl rfl)) (bakLooks_wait p x cells d hd l hlen b th v hV ho hl)
      · simp
        exact H 58 _ _ _ (by rw [h2]; try rfl) (.inr (.inl rfl)) (bakLooks_go p x cells d hd l hlen b ⟨hs.1, hs.2.1⟩ th v hV ho hl)
    · simp
      exact H 58 _ _ _ (by rw [h2]; try rfl) (.inr (.inl rfl)) (bakLooks_over p x cells d hd l hlen b th v hV ho)
  by_cases h3 : b.nx = 3
  · obtain ⟨hs, hk⟩ := hb.look (.inr (.inl h3))
    obtain ⟨m, hm8, hw, _⟩ := hb.word h3
    simp [h3] at hV ⊢
    rw [hw] at hV ⊢
    rw [Int.toNat_natCast]
    by_cases hbt : bits .and .u64 (IntKind.u64.wrap v) (d.s m) = 0
    · rw [if_pos hbt]
      exact H 72 _ _ _ (by rw [h3]; try rfl) (.inr (.inr (.inl rfl))) (bakWords_go p x cells d hd l hlen b m hm8 hw ⟨hs.1, hs.2.1⟩ th v hvI hV hbt)
    · rw [if_neg hbt]
      have e := bakWords_meets p x cells d hd l hlen b m hm8 hw th v hvI hV hbt
      rw [hw] at e
      exact H 72 _ _ _ (by rw [h3]; try rfl) (.inr (.inr (.inl rfl))) e
  by_cases h4 : b.nx = 4
  · simp [h4] at hV ⊢
    cases ho : overB v b.sp
    · simp
      exact H 73 _ _ _ (by rw [h4]; try rfl) (.inr (.inr (.inr (.inl rfl)))) (bakWaits_wait p x cells d hd l hlen b th v hV ho)
    · simp
      exact H 73 _ _ _ (by rw [h4]; try rfl) (.inr (.inr (.inr (.inl rfl)))) (bakWaits_over p x cells d hd l hlen b th v hV ho)
  by_cases h5 : b.nx = 5
  · simp [h5]
    exact H 55 _ _ _ (by rw [h5]; try rfl) (.inr (.inr (.inr (.inr (.inl rfl))))) (bakWrites_any p x cells d hd l hlen b (hb.wr h5) hb.left hc th)
  by_cases h6 : b.nx = 6
  · simp [h6] at hV ⊢
    cases ho : overB v (d.st - 1)
    · simp
      exact H 56 _ _ _ (by rw [h6]; try rfl) (.inr (.inr (.inr (.inr (.inr (.inl rfl)))))) (bakOrders_wait p x cells d hd l hlen b th v hV ho)
    · simp
      exact H 56 _ _ _ (by rw [h6]; try rfl) (.inr (.inr (.inr (.inr (.inr (.inl rfl)))))) (bakOrders_over p x cells d hd l hlen b th v hV ho)
  have h7 : b.nx = 7 := by omega
  simp [h7]
  exact H 57 _ _ _ (by rw [h7]; try rfl) (.inr (.inr (.inr (.inr (.inr (.inr rfl)))))) (bakEnds_any p x cells d hd l hlen b th)
end Go.Proofs.Ytlmnljijpgpmiaa
