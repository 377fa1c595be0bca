/- Layer 6: the steps in a loop; the walk of TxlogPlays. -/
import Derived.Test.YtekmdekcncgkfaaC6e
import Derived.Test.YtekmdekcncgkfaaR6
namespace Go.Proofs.Ytekmdekcncgkfaa
open Go.RowKit
set_option linter.unusedVariables false
theorem stepL_most (st : TS) (k c v : Int) : (stepL st k c v).most = st.most := by
  unfold stepL
  split
  · exact putT_most _ _ _
  · split <;> rfl
/-- The invariant of the loops over steps. -/
def LPlaying (w : World) (t r m : Nat) (wr : World) : Prop := ∃ st told F G, Inv st ∧ st.most = m ∧ ToldOk told ∧ LBoth wr t r st told F G ∧ Below w.heap.size w wr ∧ ∀ b, F b ∨ G b → w.heap.size ≤ b
theorem LPlaying.calm {w wr w' : World} {t r m : Nat} (h : LPlaying w t r m wr) (hb : Below wr.heap.size wr w') : LPlaying w t r m w' := by
  obtain ⟨st, told, F, G, h1, h2, h3, h4, h5, h6⟩ := h
  exact ⟨st, told, F, G, h1, h2, h3, h4.calm hb, h5.trans (hb.mono h5.size), h6⟩
theorem LPlaying.step {w wr w' : World} {t r m : Nat} {st' : TS} {told' : List Int} {F G : Nat → Prop} (hI : Inv st') (hm : st'.most = m) (hto : ToldOk told') (hb : Below w.heap.size w wr) (hf : ∀ b, F b ∨ G b → w.heap.size ≤ b) (h : LBothStep wr t r F G st' told' w') : LPlaying w t r m w' := by
  obtain ⟨F', G', hB, hC, h1, h2⟩ := h
  have z := hb.size
  refine ⟨st', told', F', G', hI, hm, hto, hB, hb.trans (hC.below hf z), fun b h => ?_⟩
  rcases h with h | h
  · rcases h1 b h with h | h
    · exact hf b (.inl h)
    · omega
  · rcases h2 b h with h | h
    · exact hf b (.inr h)
    · omega
theorem lnew_both {w w1 w2 : World} {m t r : Nat} {F G : Nat → Prop} (h1 : 1 ≤ m) (h2 : m ≤ 24) (hT : LogObj w1 t (newT m) noS noS F) (hb1 : Below w.heap.size w w1) (hf1 : ∀ b, F b → w.heap.size ≤ b)
    (hR : RLogObj w2 r (newT m) [] G) (hb2 : Below w1.heap.size w1 w2) (hf2 : ∀ b, G b → w1.heap.size ≤ b) : LPlaying w t r m w2 := by
  have z1 := hb1.size
  refine ⟨newT m, [], F, G, newT_inv m h1 h2, rfl, toldOk_nil, ⟨hT.calm hb2, hR, fun b hF hG => ?_⟩, hb1.trans (hb2.mono z1), fun b h => h.elim (hf1 b) (fun h => by have := hf2 b h; omega)⟩
  have := hT.lt hF
  have := hf2 b hG
  omega
def LGoes (w : World) (t r m : Nat) (e : Ending) (w' : World) : Prop := e = .returned (.bool true) ∧ LPlaying w t r m w'
theorem lone_goes {w wr : World} {t r m : Nat} (h : LPlaying w t r m wr) (k c v : Int) :
    Calls Try.prog 17 #[.pointer (some ⟨t, 0, none⟩), .pointer (some ⟨r, 0, none⟩), .agg #[.int .i64 k, .int .i64 c, .int .i64 v]] wr (LGoes w t r m) := by
  obtain ⟨st, told, F, G, h1, h2, h3, h4, h5, h6⟩ := h
  refine (lone_any st told h1 h3 t r F G wr h4 k c v).mono ?_
  rintro e w' ⟨rfl, hs⟩
  exact ⟨rfl, LPlaying.step (stepL_inv h1 k c v) ((stepL_most st k c v).trans h2) (stepR_ok h3 k c) h5 h6 hs⟩
theorem lall_goes {w wr : World} {t r m : Nat} (h : LPlaying w t r m wr) :
    Calls Try.prog 18 #[.pointer (some ⟨t, 0, none⟩), .pointer (some ⟨r, 0, none⟩)] wr (LGoes w t r m) := by
  have H := Lib.hid h
  clear h
  go_enter Try.func18, Try.ntmps18
  go_wp2_with fail
  refine (lone_goes H.out 3 0 0).mono ?_; rintro e w1 ⟨rfl, h⟩
  have H1 := Lib.hid h
  clear h
  go_wp2_with fail
  refine (lone_goes H1.out 4 0 0).mono ?_; rintro e w2 ⟨rfl, h⟩
  have H2 := Lib.hid h
  clear h
  go_wp2_with fail
  go_ret
  exact ⟨rfl, H2.out⟩
theorem LPlaying.below {w wr : World} {t r m : Nat} (h : LPlaying w t r m wr) : Below w.heap.size w wr := by
  obtain ⟨st, told, F, G, h1, h2, h3, h4, h5, h6⟩ := h
  exact h5
set_option maxHeartbeats 2000000 in
theorem txlogPlays_law {w : World} (m : Int) (wm : (Lit.int .i64 m).wf = true) (a : Option Addr) (len cap : Nat) (q : Nat → Nat → Int) (hg : Grid w a len 3 q) (hlc : len ≤ cap) (hcm : cap ≤ maxLen) (hq : ∀ i j, (Lit.int .i64 (q i j)).wf = true) :
    Calls Try.prog 5 #[.int .i64 m, .slice a len cap] w fun e w' => e = .returned (.bool true) ∧ Below w.heap.size w w' := by
  have HG := Lib.hid hg
  unfold maxLen at hcm
  clear wm hg hq
  by_cases hm : m < 1 ∨ 24 < m
  · have HM := Lib.hid hm
    clear hm
    go_enter Try.func5, Try.ntmps5
    go_wp2_with fail
    refine (logNew_bad m HM.out _).mono ?_; rintro e w1 ⟨rfl, rfl⟩
    go_wp2_with fail
    refine (rlogNew_bad m HM.out _).mono ?_; rintro e w1 ⟨rfl, rfl⟩
    go_wp2_with fail
    go_ret
    exact ⟨rfl, Below.refl _ _⟩
  · obtain ⟨n, rfl⟩ : ∃ n : Nat, m = n := ⟨m.toNat, by omega⟩
    have h1 : 1 ≤ n := by omega
    have h2 : n ≤ 24 := by omega
    clear hm
    go_enter Try.func5, Try.ntmps5
    go_wp2_with fail
    refine (logNew_any n h1 h2 _).mono ?_; rintro e w1 ⟨t, F, rfl, hT, hb1, hf1⟩
    have H1 := Lib.hid (And.intro hT (And.intro hb1 hf1))
    clear hT hb1 hf1
    go_wp2_with fail
    refine (rlogNew_any n h1 h2 _).mono ?_; rintro e w2 ⟨r, G, rfl, hR, hb2, hf2⟩
    have H2 : Hid (LPlaying w t r n w2) := lnew_both h1 h2 H1.out.1 H1.out.2.1 H1.out.2.2 hR hb2 hf2
    clear hR hb2 hf2 H1
    go_wp2_with fail
    go_loopw [9, 10] (fun i _ wr => ∃ k : Nat, k ≤ len ∧ i = .int .i64 k ∧ Hid (LPlaying w t r n wr)) (fun i _ _ => len - (intOf i).toNat)
    case atStart => exact ⟨0, by omega, rfl, H2.out⟩
    case round =>
      obtain ⟨k, hk, rfl, HP⟩ := hrel
      by_cases hlt : k < len
      · obtain ⟨b, off, rfl, hbw, hcell⟩ := HG.out.resolve_left (by omega)
        have c0 := (HP.out.below.cell (p := ⟨b, off + k * 3 + 0, none⟩) hbw).trans (hcell k hlt 0 (by omega))
        have c1 := (HP.out.below.cell (p := ⟨b, off + k * 3 + 1, none⟩) hbw).trans (hcell k hlt 1 (by omega))
        have c2 := (HP.out.below.cell (p := ⟨b, off + k * 3 + 2, none⟩) hbw).trans (hcell k hlt 2 (by omega))
        simp only [Nat.add_zero] at c0
        generalize q k 0 = x0 at *
        generalize q k 1 = x1 at *
        generalize q k 2 = x2 at *
        clear hcell
        go_wp2_with fail
        refine (lone_goes HP.out x0 x1 x2).mono ?_; rintro e w3 ⟨rfl, hstep⟩
        have H3 := Lib.hid hstep
        clear hstep c0 c1 c2
        go_wp2_with fail
        go_roundw
        case rel => exact ⟨k + 1, by omega, by go_num, H3.out⟩
        case measure => simp [intOf]; omega
      · obtain rfl : k = len := by omega
        go_wp2_with fail
        refine (lall_goes HP.out).mono ?_; rintro e w3 ⟨rfl, hstep⟩
        have H3 := Lib.hid hstep
        clear hstep
        go_wp2_with fail
        go_ret
        exact ⟨rfl, H3.out.below⟩
end Go.Proofs.Ytekmdekcncgkfaa
