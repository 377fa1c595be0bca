/- Layer 11: the examples at the head of the laws. -/
import Derived.Test.YtlmnljijpgpmiaaC11g
import Derived.Test.YtlmnljijpgpmiaaC3p
namespace Go.Proofs.Ytlmnljijpgpmiaa
open Go.RowKit
set_option linter.unusedVariables false
theorem headZ_one : headZ 1 true = 3 := by unfold headZ wrap64; simp
/-- A machine that knows goes on. -/
def KRun (w : World) (p x cells : Nat) (d : BD) (m : Nat) (wr : World) : Prop := ∃ l b, AtW w (KB p x cells d l b) wr ∧ EInv d.n d.st d.s d.W b l ∧ l.length + m ≤ 100 ∧ b.known = true ∧ muK d.st b = m ∧ ((2 ≤ m ∧ (b.nx = 1 ∨ b.nx = 5 ∨ b.nx = 7)) ∨ (m = 1 ∧ b.nx = 7) ∨ (m = 0 ∧ b.nx = 0))
theorem krun_step {w wr : World} {p x cells m : Nat} {d : BD} (hd : BDOk d) (hW : ∀ y ∈ d.W, I64 y.2) (hm : d.W.length = 0 ∨ d.most < cells) (hc : ∀ y ∈ d.W, 0 ≤ y.1 ∧ y.1 < (cells : Int)) (h : KRun w p x cells d (m + 1) wr) (th : Int) :
    Calls Try.prog 11 #[.pointer (some ⟨x, 0, none⟩), .pointer (some ⟨p, 0, none⟩), .int .i64 th] wr fun e w' => e = .returned (ansV (if m = 0 then 3 else 2) 0 0 true) ∧ KRun w p x cells d m w' := by
  obtain ⟨l, b, h1, h2, h3, h4, h5, h6⟩ := h
  have hx : b.nx = 1 ∨ b.nx = 5 ∨ b.nx = 7 := by
    rcases h6 with ⟨_, h⟩ | ⟨_, h⟩ | ⟨h, _⟩
    · exact h
    · exact .inr (.inr h)
    · omega
  obtain ⟨v, hv, hs⟩ := alone_step hd h1 h2 (by omega) (by omega) hm hc th
  obtain ⟨k1, k2, k3⟩ := known_step h2.ok h4 hx v
  have hmu : muK d.st (stepB11 d.n d.st d.s b v).1 = m := by omega
  refine hs.mono ?_
  rintro e w' ⟨rfl, g⟩
  have hi := h2.step (by omega) hW th v
  rcases k3 with ⟨q1, q2, q3⟩ | ⟨q1, q2, q3⟩
  · refine ⟨by rw [q2, if_neg (by omega)], _, _, g, hi, by rw [List.length_append]; simp; omega, k1, hmu, ?_⟩
    by_cases hm1 : m = 1
    · refine .inr (.inl ⟨hm1, ?_⟩)
      rw [hm1] at hmu
      rcases q3 with q | q | q
      · have := hi.ok.laid
        unfold muK at hmu
        rw [if_pos q] at hmu
        split at hmu <;> omega
      · have := hi.ok.wr q
        unfold muK at hmu
        rw [if_neg (by omega), if_neg (by omega), if_neg (by omega), if_pos q] at hmu
        split at hmu <;> omega
      · exact q
    · exact .inl ⟨by omega, q3⟩
  · have hm0 : m = 0 := by omega
    exact ⟨by rw [q2, if_pos hm0], _, _, g, hi, by rw [List.length_append]; simp; omega, k1, hmu, .inr (.inr ⟨hm0, q3⟩)⟩
theorem argOne (a b : Int) (w : World) : ArgW (w.alloc (.cells #[.int .i64 a, .int .i64 b] 29)) (.slice (some ⟨w.heap.size, 0, none⟩) 1 1) [(a, b)] := ⟨_, _, rfl, fun _ => ⟨w.heap.size, rfl, by simp, fun k hk => by
  match k, hk with
  | 0, _ => simp [wcells]
  | 1, _ => simp [wcells]⟩⟩
theorem mu_shown (lv : Value) : muK (mkD 4 1 false lv [(2, 9)]).st (newK 4 false 1 [(2, 9)]) = 11 := rfl
theorem krun_new {w w1 : World} {p x : Nat} {lv : Value} (h : AtW w (KB p x 4 (mkD 4 1 false lv [(2, 9)]) [] (newK 4 false 1 [(2, 9)])) w1) : KRun w p x 4 (mkD 4 1 false lv [(2, 9)]) 11 w1 :=
  ⟨[], _, h, EInv.new 4 (by decide) false 1 (by decide) _ _, by simp, rfl, rfl, .inl ⟨by decide, .inl rfl⟩⟩
theorem krun_end {w wr : World} {p x : Nat} {lv : Value} (h : KRun w p x 4 (mkD 4 1 false lv [(2, 9)]) 0 wr) : ∃ l b, AtW w (KB p x 4 (mkD 4 1 false lv [(2, 9)]) l b) wr ∧ wordOf l 4 2 0 = 9 ∧ wordOf l 2 1 0 = 3 := by
  obtain ⟨l, b, h1, h2, h3, h4, h5, h6⟩ := h
  have h0 : b.nx = 0 := by
    rcases h6 with ⟨h, _⟩ | ⟨h, _⟩ | ⟨_, h⟩
    · omega
    · omega
    · exact h
  have hl := h2.ok.no (.inr (.inr h0))
  refine ⟨l, b, h1, ?_, ?_⟩
  · rw [h2.cells 2, hl]; rfl
  · have := h2.fin h0
    have e : slotZ (mkD 4 1 false lv [(2, 9)]).st (mkD 4 1 false lv [(2, 9)]).n = 1 := rfl
    rw [e] at this
    rw [this]; exact headZ_one
theorem krun_left {w wr : World} {p x m : Nat} {lv : Value} (hm : m = 1) (h : KRun w p x 4 (mkD 4 1 false lv [(2, 9)]) m wr) :
    Calls Try.prog 12 #[.pointer (some ⟨x, 0, none⟩)] wr fun e w' => e = .returned (.int .i64 0) ∧ KRun w p x 4 (mkD 4 1 false lv [(2, 9)]) m w' := by
  obtain ⟨l, b, h1, h2, h3, h4, h5, h6⟩ := h
  have h7 : b.nx = 7 := by
    rcases h6 with ⟨h, _⟩ | ⟨_, h⟩ | ⟨h, _⟩
    · omega
    · exact h
    · omega
  have hl := h2.ok.no (.inr (.inl h7))
  refine (alone_left h1).mono ?_
  rintro e w' ⟨rfl, g⟩
  exact ⟨by rw [hl]; rfl, l, b, g, h2, h3, h4, h5, h6⟩
set_option maxHeartbeats 4000000 in
set_option maxRecDepth 100000 in
theorem shown11_any (w : World) : Calls Try.prog 6 #[] w fun e w' => e = .returned (.bool true) ∧ Below w.heap.size w w' := by
  have HM := Lib.hid (memNew_any 4 4 (by decide) (by decide) (by decide) (by decide))
  have HN : Hid (∀ w : World, Calls Try.prog 8 #[.agg #[.int .i64 0, .int .i64 4, .int .i64 0, .int .i64 0, .bool false, .int .i64 0, .slice none 0 0], .int .i64 1, .slice (some ⟨w.heap.size, 0, none⟩) 1 1] (w.alloc (.cells #[.int .i64 2, .int .i64 9] 29)) (NewPost (w.alloc (.cells #[.int .i64 2, .int .i64 9] 29)) 4 1 false [(2, 9)])) := fun w => bakNew_any 0 4 0 0 false 0 (.slice none 0 0) 1 (.slice (some ⟨w.heap.size, 0, none⟩) 1 1) [(2, 9)] _ (argOne 2 9 w) (by decide) (by decide) (by decide) (by decide) (by decide)
  have HBAD := Lib.hid (fun w => bakNew_bad 0 4 0 0 false 0 (.slice none 0 0) 0 none 0 0 (by decide) w)
  have hok : wOk [(2, 9)] := by decide
  have HOK := Lib.hid hok
  have HW2 : Hid (∀ y ∈ [((2 : Int), (9 : Int))], I64 y.2) := by
    intro y hy
    simp at hy
    subst hy
    exact ⟨by show (-9223372036854775808 : Int) ≤ 9; decide, by show (9 : Int) ≤ 9223372036854775807; decide⟩
  have HC : Hid (∀ y ∈ [((2 : Int), (9 : Int))], 0 ≤ y.1 ∧ y.1 < ((4 : Nat) : Int)) := by
    intro y hy
    simp at hy
    subst hy
    decide
  have HMO : Hid (∀ lv, (mkD 4 1 false lv [(2, 9)]).W.length = 0 ∨ (mkD 4 1 false lv [(2, 9)]).most < ((4 : Nat) : Int)) := fun lv => .inr (by show mostZ [(2, 9)] < 4; decide)
  have HDK : Hid (∀ lv, BDOk (mkD 4 1 false lv [(2, 9)])) := fun lv => mkD_ok false lv (by decide) (by decide) (by decide) (by decide) (by decide)
  clear hok
  go_enter Try.func6, Try.ntmps6
  go_wp2_with fail
  refine (HM.out w).mono ?_; rintro e w2 ⟨p, rfl, h⟩
  have H2 := Lib.hid h
  clear h HM
  go_wp2_with fail
  have HB2 := Lib.hid ((Below.refl w2.heap.size w2).alloc (Nat.le_refl _) (.cells #[.int .i64 2, .int .i64 9] 29))
  refine (HN.out w2).mono ?_; rintro e w3 hq
  obtain ⟨_, x, lv, rfl, h⟩ := hq.resolve_right (fun k => k.1 HOK.out)
  have H3 : Hid (KRun w p x 4 (mkD 4 1 false lv [(2, 9)]) 11 w3) := krun_new ((H2.out.calm (MemH.good _ _ _ _) HB2.out).new (MemH.good _ _ _ _) h)
  clear h hq HN H2 HB2
  go_wp2_with fail
  refine (HBAD.out w3).mono ?_; rintro e w4 ⟨rfl, hb⟩
  have HCALM : Hid (∀ m wa wb, KRun w p x 4 (mkD 4 1 false lv [(2, 9)]) m wa → Below wa.heap.size wa wb → KRun w p x 4 (mkD 4 1 false lv [(2, 9)]) m wb) := by
    rintro m wa wb ⟨l, b, k1, k2⟩ hb
    exact ⟨l, b, k1.calm (KB.good _ _ _ _ _ _) hb, k2⟩
  have H4 := Lib.hid (HCALM.out _ _ _ H3.out hb)
  have HST : Hid (∀ m wr, KRun w p x 4 (mkD 4 1 false lv [(2, 9)]) (m + 1) wr → Calls Try.prog 11 #[.pointer (some ⟨x, 0, none⟩), .pointer (some ⟨p, 0, none⟩), .int .i64 5] wr fun e w' => e = .returned (ansV (if m = 0 then 3 else 2) 0 0 true) ∧ KRun w p x 4 (mkD 4 1 false lv [(2, 9)]) m w') := fun m wr h => krun_step (HDK.out lv) HW2.out (HMO.out lv) HC.out h 5
  clear hb H3 HBAD HDK HW2 HMO HC
  go_wp2_with fail
  go_loopw [7, 8] (fun nn i wr => ∃ k : Nat, k ≤ 10 ∧ nn = .int .i64 k ∧ i = .int .i64 k ∧ Hid (KRun w p x 4 (mkD 4 1 false lv [(2, 9)]) (11 - k) wr)) (fun _ i _ => 10 - (intOf i).toNat)
  case atStart => exact ⟨0, by omega, rfl, rfl, H4.out⟩
  case round =>
    obtain ⟨k, hk, rfl, rfl, HR⟩ := hrel
    clear H4
    by_cases hlt : k < 10
    · have e1 : 11 - k = (10 - k) + 1 := by omega
      have hr := HR.out
      rw [e1] at hr
      have HS := Lib.hid (HST.out _ _ hr)
      have hkl : (k : Int) < 10 := by omega
      rw [if_neg (by omega)] at HS
      clear hr e1
      go_wp2_with fail
      refine HS.out.mono ?_; rintro e w5 ⟨rfl, h⟩
      have H5 : Hid (KRun w p x 4 (mkD 4 1 false lv [(2, 9)]) (11 - (k + 1)) (w5.alloc (.cells #[.int .i64 2, .int .i64 0, .int .i64 0, .bool true] 46))) := by
        have h5 := HCALM.out _ _ _ h ((Below.refl w5.heap.size w5).alloc (Nat.le_refl _) (.cells #[.int .i64 2, .int .i64 0, .int .i64 0, .bool true] 46))
        rw [show 10 - k = 11 - (k + 1) by omega] at h5
        exact h5
      clear h HS
      unfold ansV
      go_wp2_with fail
      go_roundw
      case rel => exact ⟨k + 1, by omega, by go_num, by go_num, H5.out⟩
      case measure => simp [intOf]; omega
    · obtain rfl : k = 10 := by omega
      have HL := Lib.hid (krun_left rfl HR.out)
      go_wp2_with fail
      refine HL.out.mono ?_; rintro e w5 ⟨rfl, h⟩
      have HS := Lib.hid (HST.out 0 _ h)
      rw [if_pos rfl] at HS
      clear h HL HR
      go_wp2_with fail
      refine HS.out.mono ?_; rintro e w6 ⟨rfl, h⟩
      obtain ⟨l, b, g, v9, v3⟩ := krun_end (HCALM.out _ _ _ h ((Below.refl w6.heap.size w6).alloc (Nat.le_refl _) (.cells #[.int .i64 3, .int .i64 0, .int .i64 0, .bool true] 46)))
      have hbx := heapAlloc w6 (.cells #[.int .i64 3, .int .i64 0, .int .i64 0, .bool true] 46)
      have hbl : w6.heap.size < (w6.alloc (.cells #[.int .i64 3, .int .i64 0, .int .i64 0, .bool true] 46)).heap.size := by simp
      have HPK1 := Lib.hid (fun (F : Nat → Prop) (wq : World) (hO : KB p x 4 (mkD 4 1 false lv [(2, 9)]) l b wq F) => Looks.left (peek_in p 4 4 l 4 2 0 (.inr (.inr (.inr ⟨rfl, by decide, rfl⟩)))) wq F hO)
      have HPK2 := Lib.hid (fun (F : Nat → Prop) (wq : World) (hO : KB p x 4 (mkD 4 1 false lv [(2, 9)]) l b wq F) => Looks.left (peek_in p 4 4 l 2 1 0 (.inr (.inl ⟨rfl, by decide, rfl⟩))) wq F hO)
      rw [v9] at HPK1
      rw [v3] at HPK2
      have HG := Lib.hid g
      clear h HS HST HCALM g
      unfold ansV
      go_wp2_with fail
      generalize w6.alloc (.cells #[.int .i64 3, .int .i64 0, .int .i64 0, .bool true] 46) = w7 at *
      obtain ⟨F, hF, hBel, _⟩ := HG.out
      refine (HPK1.out F w7 hF).mono ?_; rintro e w8 ⟨rfl, hb⟩
      have HF8 := Lib.hid ((KB.good _ _ _ _ _ _).calm hF hb)
      have HB8 := Lib.hid (hBel.trans (hb.mono hBel.size))
      have hbx8 := (hb.block _ hbl).trans hbx
      have hbl8 := Nat.lt_of_lt_of_le hbl hb.size
      clear hb hF hBel HPK1
      go_wp2_with fail
      refine (HPK2.out F w8 HF8.out).mono ?_; rintro e w9 ⟨rfl, hb⟩
      have HB9 := Lib.hid (HB8.out.trans (hb.mono HB8.out.size))
      obtain ⟨a0, a1, a2, a3, az⟩ := four_cells ((hb.block _ hbl8).trans hbx8)
      clear hb HPK2
      go_wp2_with fail
      go_ret
      exact ⟨rfl, HB9.out⟩
end Go.Proofs.Ytlmnljijpgpmiaa
