/- Layer 4: the maker of the stamps; Complete. -/
import Derived.Test.YtphnhkoklnladaaC4r
import Derived.Test.YtphnhkoklnladaaS3b
namespace Go.Proofs.Ytphnhkoklnladaa
open Go.RowKit Go.Shelf
set_option linter.unusedVariables false
attribute [local go_sem] Oper.semAt_some
/-- The stamps' iterator is at hand. -/
def StampsGot (w : World) (n : Int) (ring : Nat) (e : Ending) (w' : World) : Prop := ∃ B1 B2, e = .returned (.func (.func 34) #[] #[.pointer (some ⟨B1, 0, none⟩), .pointer (some ⟨B2, 0, none⟩)]) ∧ Boxed w' B1 2 (.int .i64 n) ∧ Boxed w' B2 3 (.int .i64 ring) ∧ Below w.heap.size w w' ∧ w.heap.size ≤ B1 ∧ w.heap.size ≤ B2
theorem stamps_any (p ring cells : Nat) (l : List Acc) (w : World) (F : Nat → Prop) (hO : MemH p ring cells l w F) : Calls Try.prog 24 #[.pointer (some ⟨p, 0, none⟩)] w (StampsGot w (wordOf l 1 0 0) ring) := by
  have HN := Lib.hid (newest_any p ring cells l w F hO)
  have HZ := Lib.hid (fun w1 (hb : Below w.heap.size w w1) => sizes_any p ring cells l w1 F ((MemH.good _ _ _ _).calm hO hb))
  have HE : Hid (∀ e w', StampsGot w (wordOf l 1 0 0) ring e w' = ∃ B1 B2, e = .returned (.func (.func 34) #[] #[.pointer (some ⟨B1, 0, none⟩), .pointer (some ⟨B2, 0, none⟩)]) ∧ Boxed w' B1 2 (.int .i64 (wordOf l 1 0 0)) ∧ Boxed w' B2 3 (.int .i64 ring) ∧ Below w.heap.size w w' ∧ w.heap.size ≤ B1 ∧ w.heap.size ≤ B2) := fun _ _ => rfl
  clear hO
  generalize wordOf l 1 0 0 = n at *
  have hmf : ∀ w, (Instr.makeFunc (.func 34) #[] #[]).run Try.prog w = (Instr.makeFunc (.func 34) #[] #[]).run Try.prog w := fun _ => rfl
  clear hmf
  go_enter Try.func24, Try.ntmps24
  go_wp2_with fail
  refine HN.out.mono ?_; rintro e w1 ⟨rfl, hb⟩
  have HB := Lib.hid hb
  clear hb HN
  have HB1 : Hid (Below w.heap.size w (w1.alloc (.cells #[.int .i64 n] 2))) := HB.out.alloc HB.out.size _
  have HX := Lib.hid (Boxed.new w1 2 (.int .i64 n))
  go_wp2_with fail
  refine (HZ.out _ HB1.out).mono ?_; rintro e w2 ⟨rfl, hb⟩
  have HB2 := Lib.hid (HB1.out.trans (hb.mono HB1.out.size))
  have HX2 : Hid (Boxed w2 w1.heap.size 2 (.int .i64 n)) := (hb.block _ HX.out.lt).trans HX.out
  have hsz : w1.heap.size ≤ w2.heap.size := by have := HX2.out.lt; omega
  clear hb HX HB1 HZ
  go_wp2_with fail
  go_ret
  rw [HE.out]
  exact ⟨_, _, rfl, HX2.out.alloc _, Boxed.new _ _ _, HB2.out.alloc HB2.out.size _, HB.out.size, HB2.out.size⟩
theorem stamps_stops (F : Fence) (nn : Nat) (hf : F.fn 34) (hro : F.round = none) (hn : 1 ≤ nn) (n₀ B1 B2 : Nat) (n : Int) (hI : I64 n) (size : Nat) (hs1 : 1 ≤ size) (hs2 : size ≤ 16) (w : World) (hb1 : Boxed w B1 2 (.int .i64 n)) (hb2 : Boxed w B2 3 (.int .i64 size)) :
    SeqStopsK F nn Try.prog 34 #[.pointer (some ⟨B1, 0, none⟩), .pointer (some ⟨B2, 0, none⟩)] (fun x : Int => #[Value.int .i64 x]) (KpS n₀ B1 B2) (fun ys => ys = stampsL n size) (fun pre => pre <+: stampsL n size) (stampsL n size).length w := fun l J Jx W hW _ _ hY h0 =>
  stamps1_in F nn hf hro hn l n₀ B1 B2 n hI size hs1 hs2 J Jx hY W ((hW.block _ hb1.lt).trans hb1) ((hW.block _ hb2.lt).trans hb2) h0
/-- The last stamp of those that are over, from the first on. -/
def complF (ov : Int → Bool) : Int → List Int → Int
  | c, [] => c
  | c, s :: r => if ov s then complF ov s r else c
def ovR (l : List Acc) (ring : Nat) (s : Int) : Bool := overB (wordOf l 2 (slotZ s ring) 0) s
def complZ (l : List Acc) (ring : Nat) : Int := if wordOf l 1 0 0 < 1 then 0 else complF (ovR l ring) (wordOf l 1 0 0 - manyR (wordOf l 1 0 0) ring) (stampsL (wordOf l 1 0 0) ring)
def lastZ : Int → List Int → Int
  | c, [] => c
  | _, s :: r => lastZ s r
theorem lastZ_snoc : ∀ (c : Int) (pre : List Int) (x : Int), lastZ c (pre ++ [x]) = x
  | _, [], _ => rfl
  | _, s :: pre, x => lastZ_snoc s pre x
theorem complF_pre {ov : Int → Bool} : ∀ (c : Int) (pre r : List Int), (∀ s ∈ pre, ov s = true) → complF ov c (pre ++ r) = complF ov (lastZ c pre) r
  | c, [], r, _ => rfl
  | c, s :: pre, r, h => by
    rw [List.cons_append]
    show (if ov s then complF ov s (pre ++ r) else c) = _
    rw [if_pos (h s (List.mem_cons_self ..)), complF_pre s pre r (fun x hx => h x (List.mem_cons_of_mem _ hx))]
    rfl
theorem complF_all {ov : Int → Bool} (c : Int) (pre : List Int) (h : ∀ s ∈ pre, ov s = true) : complF ov c pre = lastZ c pre := by
  have := complF_pre (ov := ov) c pre [] h
  rw [List.append_nil] at this
  exact this
theorem complF_stop {ov : Int → Bool} {c x : Int} {q xs : List Int} (h : ∀ s ∈ q, ov s = true) (hx : ov x = false) (hp : q ++ [x] <+: xs) : complF ov c xs = lastZ c q := by
  obtain ⟨r, rfl⟩ := hp
  rw [List.append_assoc, complF_pre c q _ h]
  show (if ov x then _ else _) = _
  rw [if_neg (by rw [hx]; decide)]
theorem keeps_below {W W' : World} (h : Below W.heap.size W W') : KeepsOthers W W' := ⟨h.size, fun k o hk _ => (h.block k (Array.getElem?_eq_some_iff.1 hk).1).trans hk⟩
set_option maxRecDepth 100000 in
set_option maxHeartbeats 4000000 in
theorem complete_any (p ring cells : Nat) (h1 : 1 ≤ ring) (h2 : ring ≤ 16) (l : List Acc) (hok : OkW l) : Looks Try.prog 10 #[.pointer (some ⟨p, 0, none⟩)] (MemH p ring cells l) (.returned (.int .i64 (complZ l ring))) := by
  rintro w F hO
  have HN := Lib.hid (fun w1 (hb : Below w.heap.size w w1) => newest_any p ring cells l w1 F ((MemH.good _ _ _ _).calm hO hb))
  have HZ := Lib.hid (fun w1 (hb : Below w.heap.size w w1) => sizes_any p ring cells l w1 F ((MemH.good _ _ _ _).calm hO hb))
  have HST := Lib.hid (fun w1 (hb : Below w.heap.size w w1) => stamps_any p ring cells l w1 F ((MemH.good _ _ _ _).calm hO hb))
  have HHD := Lib.hid (fun w1 s (hb : Below w.heap.size w w1) => head_any p ring cells h1 h2 l s w1 F ((MemH.good _ _ _ _).calm hO hb))
  obtain ⟨n, hn⟩ : ∃ n, wordOf l 1 0 0 = n := ⟨_, rfl⟩
  have hI : I64 n := by rw [← hn]; exact hok _ _ _
  have HI := Lib.hid hI
  obtain ⟨hI1, hI2⟩ := hI
  unfold complZ
  rw [hn] at HN HST ⊢
  clear hO hn
  refine (callsIn_wide (n := 5)).1 ?_
  refine callsIn_of_wp_marks Try.func10 rfl trivial ?_ rfl
  simp only [Try.ntmps10, List.size_toArray, List.length_cons, List.length_nil, Nat.reduceAdd, Nat.reduceSub, Array.replicate_succ, Array.replicate_zero, List.push_toArray, List.append_toArray, List.nil_append, List.cons_append]
  by_cases hlt : n < 1
  · rw [if_pos hlt]
    gi_wp2_with fail
    have HB0 : Hid (Below w.heap.size w (w.alloc (.cells #[.pointer (some ⟨p, 0, none⟩)] 25))) := (Below.refl _ _).alloc (Nat.le_refl _) _
    have X0 := Lib.hid (Boxed.new w 25 (.pointer (some ⟨p, 0, none⟩)))
    refine ⟨trivial, ?_⟩
    refine (callsIn_wide.2 (HZ.out _ HB0.out)).mono ?_; rintro e w1 ⟨rfl, hb⟩
    have HB1 := Lib.hid (HB0.out.trans (hb.mono HB0.out.size))
    have X1 : Hid (Boxed w1 w.heap.size 25 (.pointer (some ⟨p, 0, none⟩))) := (hb.block _ X0.out.lt).trans X0.out
    have x1 := X1.out.cell
    clear hb X0 HB0
    gi_wp2_with fail
    refine ⟨trivial, ?_⟩
    refine (callsIn_wide.2 (HN.out _ HB1.out)).mono ?_; rintro e w2 ⟨rfl, hb⟩
    have HB2 := Lib.hid (HB1.out.trans (hb.mono HB1.out.size))
    have X2 : Hid (Boxed w2 w.heap.size 25 (.pointer (some ⟨p, 0, none⟩))) := (hb.block _ X1.out.lt).trans X1.out
    have x2 := X2.out.cell
    have x2l := X2.out.lt
    clear hb X1 HB1 x1
    gi_wp2_with fail
    all_goals
      refine ⟨trivial, ?_⟩
      refine (callsIn_wide.2 (HN.out _ (HB2.out.alloc HB2.out.size _))).mono ?_; rintro e w3 ⟨rfl, hb⟩
      have HB3 := Lib.hid ((HB2.out.alloc HB2.out.size _).trans (hb.mono (HB2.out.alloc HB2.out.size _).size))
      clear hb
      gi_wp2
      exact ⟨_, results_tmp rfl _ _ _, rfl, HB3.out⟩
  · rw [if_neg hlt]
    by_cases hle : (ring : Int) ≤ n
    · have HM : Hid ((manyR n ring : Int) = ring) := by show _ = _; unfold manyR; omega
      have hge : (0 : Int) ≤ n - ring := by omega
      gi_wp2_with fail
      have HB0 : Hid (Below w.heap.size w (w.alloc (.cells #[.pointer (some ⟨p, 0, none⟩)] 25))) := (Below.refl _ _).alloc (Nat.le_refl _) _
      have X0 := Lib.hid (Boxed.new w 25 (.pointer (some ⟨p, 0, none⟩)))
      refine ⟨trivial, ?_⟩
      refine (callsIn_wide.2 (HZ.out _ HB0.out)).mono ?_; rintro e w1 ⟨rfl, hb⟩
      have HB1 := Lib.hid (HB0.out.trans (hb.mono HB0.out.size))
      have X1 : Hid (Boxed w1 w.heap.size 25 (.pointer (some ⟨p, 0, none⟩))) := (hb.block _ X0.out.lt).trans X0.out
      have x1 := X1.out.cell
      clear hb X0 HB0
      gi_wp2_with fail
      refine ⟨trivial, ?_⟩
      refine (callsIn_wide.2 (HN.out _ HB1.out)).mono ?_; rintro e w2 ⟨rfl, hb⟩
      have HB2 := Lib.hid (HB1.out.trans (hb.mono HB1.out.size))
      have X2 : Hid (Boxed w2 w.heap.size 25 (.pointer (some ⟨p, 0, none⟩))) := (hb.block _ X1.out.lt).trans X1.out
      have x2 := X2.out.cell
      have x2l := X2.out.lt
      have HB2a : Hid (Below w.heap.size w (w2.alloc (.cells #[.int .i64 (n - ring)] 2))) := HB2.out.alloc HB2.out.size _
      have X2a := Lib.hid (X2.out.alloc (.cells #[.int .i64 (n - ring)] 2))
      have Y2a := Lib.hid (Boxed.new w2 2 (.int .i64 (n - ring)))
      clear hb X1 HB1 x1 HZ
      gi_wp2_with fail
      refine ⟨trivial, ?_⟩
      refine (callsIn_wide.2 (HN.out _ HB2a.out)).mono ?_; rintro e w3 ⟨rfl, hb⟩
      have HB3 := Lib.hid (HB2a.out.trans (hb.mono HB2a.out.size))
      have X3 : Hid (Boxed w3 w.heap.size 25 (.pointer (some ⟨p, 0, none⟩))) := (hb.block _ X2a.out.lt).trans X2a.out
      have Y3 : Hid (Boxed w3 w2.heap.size 2 (.int .i64 (n - ring))) := (hb.block _ Y2a.out.lt).trans Y2a.out
      have x3 := X3.out.cell
      have h23 : w2.heap.size < w3.heap.size := Y3.out.lt
      clear hb X2 HB2 x2 X2a Y2a HB2a HN
      gi_wp2_with fail
      refine ⟨trivial, ?_⟩
      refine (callsIn_wide.2 (HST.out _ HB3.out)).mono ?_
      rintro e w4 ⟨B1, B2, rfl, hb1, hb2, hb, hl1, hl2⟩
      have HB4 := Lib.hid (HB3.out.trans (hb.mono HB3.out.size))
      have X4 : Hid (Boxed w4 w.heap.size 25 (.pointer (some ⟨p, 0, none⟩))) := (hb.block _ X3.out.lt).trans X3.out
      have Y4 : Hid (Boxed w4 w2.heap.size 2 (.int .i64 (n - ring))) := (hb.block _ Y3.out.lt).trans Y3.out
      clear hb X3 Y3 HB3 x3 HST
      gi_wp2_with fail
      have hw0 := x2l
      have hwl : w2.heap.size < w4.heap.size := Y4.out.lt
      have HSZ : Hid (w.heap.size ≤ w4.heap.size) := HB4.out.size
      refine wpIn_rangeFunc_ownF rfl (by omega) (gf := 34) (lb := #[.pointer (some ⟨B1, 0, none⟩), .pointer (some ⟨B2, 0, none⟩)]) rfl trivial (enters_of Try.func34 (by kernel_rfl) rfl) (stamps_stops Fence.wide _ trivial rfl (by omega) w.heap.size B1 B2 n HI.out ring h1 h2 _ hb1 hb2) (fun h k => KpS.t h k) (KpS.b HSZ.out hb1.lt hb2.lt) (Below.refl _ _) (fun _ => rfl)
        (fun pre W => Boxed W w.heap.size 25 (.pointer (some ⟨p, 0, none⟩)) ∧ Boxed W w2.heap.size 2 (.int .i64 (lastZ (n - ring) pre)) ∧ (∀ s ∈ pre, ovR l ring s = true) ∧ Below w.heap.size w W ∧ W.heap[B1]? = w4.heap[B1]? ∧ W.heap[B2]? = w4.heap[B2]?)
        (fun c pre W => c = .exit 0 ∧ ∃ q x, pre = q ++ [x] ∧ (∀ s ∈ q, ovR l ring s = true) ∧ ovR l ring x = false ∧ Boxed W w2.heap.size 2 (.int .i64 (lastZ (n - ring) q)) ∧ Below w.heap.size w W)
        (fun s A B row hs hg hr => ⟨hs.1.kept hg (fun e => by have := (hr _ e.symm).1; omega), hs.2.1.kept hg (fun e => by have := (hr _ e.symm).1; omega), hs.2.2.1, hs.2.2.2.1.grown hg hs.2.2.2.1.size (fun k e => Nat.le_trans HSZ.out (hr k e).1), (hg.block _ (by have := hb1.lt; have h := hs.2.2.2.2.1; rw [hb1] at h; exact (Array.getElem?_eq_some_iff.1 h).1) (fun e => by have := (hr _ e.symm).1; have := hb1.lt; omega)).trans hs.2.2.2.2.1, (hg.block _ (by have h := hs.2.2.2.2.2; rw [hb2] at h; exact (Array.getElem?_eq_some_iff.1 h).1) (fun e => by have := (hr _ e.symm).1; have := hb2.lt; omega)).trans hs.2.2.2.2.2⟩)
        (fun c s A B row hs hg hr => by
          obtain ⟨hc, q, x, e1, e2, e3, e4, e5⟩ := hs
          exact ⟨hc, q, x, e1, e2, e3, e4.kept hg (fun e => by have := (hr _ e.symm).1; omega), e5.grown hg e5.size (fun k e => Nat.le_trans HSZ.out (hr k e).1)⟩)
        ⟨X4.out, Y4.out, (fun _ h => by cases h), HB4.out, rfl, rfl⟩
        (fun x => { tmps := #[.pointer (some ⟨p, 0, none⟩), .pointer (some ⟨w.heap.size, 0, none⟩), .int .i64 0, .int .i64 cells, .int .i64 ring, .pointer (some ⟨w2.heap.size, 0, none⟩), .int .i64 x, .tuple #[.int .i64 cells, .int .i64 ring], .pointer (some ⟨p, 0, none⟩), .tuple #[.int .i64 cells, .int .i64 ring], .int .i64 cells, .int .i64 ring, .pointer (some ⟨p, 0, none⟩), .int .i64 n, .int .i64 ring, .int .i64 (n - ring), .int .i64 (n - ring), .pointer (some ⟨p, 0, none⟩), .int .i64 n, .bool (decide (n < 1)), .pointer (some ⟨p, 0, none⟩), .func (.func 34) #[] #[.pointer (some ⟨B1, 0, none⟩), .pointer (some ⟨B2, 0, none⟩)], .int .i64 x, undef, undef, undef, undef, undef, undef, undef, undef], defers := [] }) ?assign ?body ?done ?stop
      case assign =>
        intro lp x W K hK
        gi_wp2
        exact hK
      case body =>
        rintro lp pre x W ⟨hx0, hy0, hov, hB, hq1, hq2⟩ _
        have x0 := hx0.cell
        have hfy := hy0.frozen
        have hcy := hy0.cell
        have HB := Lib.hid hB
        have HX := Lib.hid hx0
        have HY := Lib.hid hy0
        have HQ := Lib.hid (And.intro hq1 hq2)
        have HOV := Lib.hid hov
        have HQL : Hid (B1 < W.heap.size ∧ B2 < W.heap.size) := ⟨by rw [hb1] at hq1; exact (Array.getElem?_eq_some_iff.1 hq1).1, by rw [hb2] at hq2; exact (Array.getElem?_eq_some_iff.1 hq2).1⟩
        clear hB hx0 hy0 hq1 hq2 hov
        gi_wp2_with fail
        refine ⟨trivial, ?_⟩
        refine (CallsIn.inRound lp (callsIn_wide.2 (HHD.out W x HB.out))).mono ?_; rintro e W1 ⟨rfl, hb⟩
        have HB1 := Lib.hid hb
        have HY1 : Hid (Boxed W1 w2.heap.size 2 (.int .i64 (lastZ (n - ring) pre))) := (hb.block _ HY.out.lt).trans HY.out
        have HX1 : Hid (Boxed W1 w.heap.size 25 (.pointer (some ⟨p, 0, none⟩))) := (hb.block _ HX.out.lt).trans HX.out
        have hc1 := HY1.out.cell
        have hf1 := HY1.out.frozen
        have HWW : Hid (Below w.heap.size w W1) := HB.out.trans (hb.mono HB.out.size)
        have HKB : Hid (KpS w.heap.size B1 B2 W W1) := ⟨hb.mono HB.out.size, hb.block _ HQL.out.1, hb.block _ HQL.out.2⟩
        have HKS : Hid (∀ v, KpS w.heap.size B1 B2 W1 (W1.setCell ⟨w2.heap.size, 0, none⟩ v)) := fun v => ⟨(Below.refl w.heap.size W1).setCell (p := ⟨w2.heap.size, 0, none⟩) (Nat.le_of_lt hw0) v, (Chg.setCell W1 ⟨w2.heap.size, 0, none⟩ v).block B1 (Nat.lt_of_lt_of_le HQL.out.1 hb.size) (fun e => by have e' : B1 = w2.heap.size := e; omega), (Chg.setCell W1 ⟨w2.heap.size, 0, none⟩ v).block B2 (Nat.lt_of_lt_of_le HQL.out.2 hb.size) (fun e => by have e' : B2 = w2.heap.size := e; omega)⟩
        clear hb HX HY hfy hcy x0
        gi_wp2_with fail
        refine ⟨trivial, ?_⟩
        refine (CallsIn.inRound lp (callsIn_wide.2 (over_any _ x W1))).mono ?_; rintro e W' ⟨rfl, rfl⟩
        have HOX : Hid (overB (wordOf l 2 (slotZ x ring) 0) x = ovR l ring x) := rfl
        generalize hovx : overB (wordOf l 2 (slotZ x ring) 0) x = ox at *
        have HOXX := Lib.hid hovx
        clear hovx
        cases ox
        · gi_wp2
          exact ⟨keeps_below HB1.out, rfl, pre, x, rfl, HOV.out, HOX.out.symm, HY1.out, HWW.out⟩
        · gi_wp2
          refine ⟨(keeps_below HB1.out).trans (KeepsOthers.setCell _ _ _), HKB.out.t (HKS.out _), ?_, ?_, ?_, ?_, ?_, ?_⟩
          · exact ((Chg.setCell W1 ⟨w2.heap.size, 0, none⟩ _).block _ HX1.out.lt (fun e => by have e' : w.heap.size = w2.heap.size := e; omega)).trans HX1.out
          · rw [lastZ_snoc]; exact HY1.out.set _
          · intro s hs
            rcases List.mem_append.1 hs with h | h
            · exact HOV.out s h
            · rw [List.mem_singleton.1 h]; exact HOX.out.symm
          · exact HWW.out.setCell (p := ⟨w2.heap.size, 0, none⟩) (Nat.le_of_lt hw0) _
          · exact ((HKS.out _).2.1.trans HKB.out.2.1).trans HQ.out.1
          · exact ((HKS.out _).2.2.trans HKB.out.2.2).trans HQ.out.2
      case done =>
        rintro D ys W hD rfl ⟨hx0, hy0, hov, hB, _, _⟩ hK
        have hcy := hy0.cell
        have HB := Lib.hid hB
        have HE : Hid (complF (ovR l ring) (n - (manyR n ring : Int)) (stampsL n ring) = lastZ (n - ring) (stampsL n ring)) := by
          show _ = _
          rw [show n - (manyR n ring : Int) = n - ring by have := HM.out; omega]
          exact complF_all _ _ hov
        have hfrz := hy0.frozen
        clear hx0 hov hB
        gi_wp2
        refine ⟨by simp, .inl ⟨_, _, rfl, run_takeDeferred hK, ?_⟩⟩
        exact ⟨_, results_tmp rfl _ _ _, by rw [HE.out]; rfl, HB.out.trans (belowK_b (w := w) (Nat.le_refl _) W D _ _ (by have := HSZ.out; omega) hK rfl rfl)⟩
      case stop =>
        rintro D c pre W hD hp ⟨rfl, q, x, rfl, hq, hx, hy0, hB⟩ hK
        have hcy := hy0.cell
        have HB := Lib.hid hB
        have HE : Hid (complF (ovR l ring) (n - (manyR n ring : Int)) (stampsL n ring) = lastZ (n - ring) q) := by
          show _ = _
          rw [show n - (manyR n ring : Int) = n - ring by have := HM.out; omega]
          exact complF_stop hq hx hp
        have hfrz := hy0.frozen
        clear hq hx hp hB
        gi_wp2
        refine ⟨by simp, .inl ⟨_, _, rfl, run_takeDeferred hK, ?_⟩⟩
        exact ⟨_, results_tmp rfl _ _ _, by rw [HE.out]; rfl, HB.out.trans (belowK_b (w := w) (Nat.le_refl _) W D _ _ (by have := HSZ.out; omega) hK rfl rfl)⟩
    · have HM : Hid ((manyR n ring : Int) = n) := by show _ = _; unfold manyR; omega
      have hge : n - ring < (0 : Int) := by omega
      gi_wp2_with fail
      have HB0 : Hid (Below w.heap.size w (w.alloc (.cells #[.pointer (some ⟨p, 0, none⟩)] 25))) := (Below.refl _ _).alloc (Nat.le_refl _) _
      have X0 := Lib.hid (Boxed.new w 25 (.pointer (some ⟨p, 0, none⟩)))
      refine ⟨trivial, ?_⟩
      refine (callsIn_wide.2 (HZ.out _ HB0.out)).mono ?_; rintro e w1 ⟨rfl, hb⟩
      have HB1 := Lib.hid (HB0.out.trans (hb.mono HB0.out.size))
      have X1 : Hid (Boxed w1 w.heap.size 25 (.pointer (some ⟨p, 0, none⟩))) := (hb.block _ X0.out.lt).trans X0.out
      have x1 := X1.out.cell
      clear hb X0 HB0
      gi_wp2_with fail
      refine ⟨trivial, ?_⟩
      refine (callsIn_wide.2 (HN.out _ HB1.out)).mono ?_; rintro e w2 ⟨rfl, hb⟩
      have HB2 := Lib.hid (HB1.out.trans (hb.mono HB1.out.size))
      have X2 : Hid (Boxed w2 w.heap.size 25 (.pointer (some ⟨p, 0, none⟩))) := (hb.block _ X1.out.lt).trans X1.out
      have x2 := X2.out.cell
      have x2l := X2.out.lt
      have HB2a : Hid (Below w.heap.size w (w2.alloc (.cells #[.int .i64 0] 2))) := HB2.out.alloc HB2.out.size _
      have X2a := Lib.hid (X2.out.alloc (.cells #[.int .i64 0] 2))
      have Y2a := Lib.hid (Boxed.new w2 2 (.int .i64 0))
      clear hb X1 HB1 x1 HZ
      gi_wp2_with fail
      refine ⟨trivial, ?_⟩
      refine (callsIn_wide.2 (HN.out _ HB2a.out)).mono ?_; rintro e w3 ⟨rfl, hb⟩
      have HB3 := Lib.hid (HB2a.out.trans (hb.mono HB2a.out.size))
      have X3 : Hid (Boxed w3 w.heap.size 25 (.pointer (some ⟨p, 0, none⟩))) := (hb.block _ X2a.out.lt).trans X2a.out
      have Y3 : Hid (Boxed w3 w2.heap.size 2 (.int .i64 0)) := (hb.block _ Y2a.out.lt).trans Y2a.out
      have x3 := X3.out.cell
      have h23 : w2.heap.size < w3.heap.size := Y3.out.lt
      clear hb X2 HB2 x2 X2a Y2a HB2a HN
      gi_wp2_with fail
      refine ⟨trivial, ?_⟩
      refine (callsIn_wide.2 (HST.out _ HB3.out)).mono ?_
      rintro e w4 ⟨B1, B2, rfl, hb1, hb2, hb, hl1, hl2⟩
      have HB4 := Lib.hid (HB3.out.trans (hb.mono HB3.out.size))
      have X4 : Hid (Boxed w4 w.heap.size 25 (.pointer (some ⟨p, 0, none⟩))) := (hb.block _ X3.out.lt).trans X3.out
      have Y4 : Hid (Boxed w4 w2.heap.size 2 (.int .i64 0)) := (hb.block _ Y3.out.lt).trans Y3.out
      clear hb X3 Y3 HB3 x3 HST
      gi_wp2_with fail
      have hw0 := x2l
      have hwl : w2.heap.size < w4.heap.size := Y4.out.lt
      have HSZ : Hid (w.heap.size ≤ w4.heap.size) := HB4.out.size
      refine wpIn_rangeFunc_ownF rfl (by omega) (gf := 34) (lb := #[.pointer (some ⟨B1, 0, none⟩), .pointer (some ⟨B2, 0, none⟩)]) rfl trivial (enters_of Try.func34 (by kernel_rfl) rfl) (stamps_stops Fence.wide _ trivial rfl (by omega) w.heap.size B1 B2 n HI.out ring h1 h2 _ hb1 hb2) (fun h k => KpS.t h k) (KpS.b HSZ.out hb1.lt hb2.lt) (Below.refl _ _) (fun _ => rfl)
        (fun pre W => Boxed W w.heap.size 25 (.pointer (some ⟨p, 0, none⟩)) ∧ Boxed W w2.heap.size 2 (.int .i64 (lastZ 0 pre)) ∧ (∀ s ∈ pre, ovR l ring s = true) ∧ Below w.heap.size w W ∧ W.heap[B1]? = w4.heap[B1]? ∧ W.heap[B2]? = w4.heap[B2]?)
        (fun c pre W => c = .exit 0 ∧ ∃ q x, pre = q ++ [x] ∧ (∀ s ∈ q, ovR l ring s = true) ∧ ovR l ring x = false ∧ Boxed W w2.heap.size 2 (.int .i64 (lastZ 0 q)) ∧ Below w.heap.size w W)
        (fun s A B row hs hg hr => ⟨hs.1.kept hg (fun e => by have := (hr _ e.symm).1; omega), hs.2.1.kept hg (fun e => by have := (hr _ e.symm).1; omega), hs.2.2.1, hs.2.2.2.1.grown hg hs.2.2.2.1.size (fun k e => Nat.le_trans HSZ.out (hr k e).1), (hg.block _ (by have := hb1.lt; have h := hs.2.2.2.2.1; rw [hb1] at h; exact (Array.getElem?_eq_some_iff.1 h).1) (fun e => by have := (hr _ e.symm).1; have := hb1.lt; omega)).trans hs.2.2.2.2.1, (hg.block _ (by have h := hs.2.2.2.2.2; rw [hb2] at h; exact (Array.getElem?_eq_some_iff.1 h).1) (fun e => by have := (hr _ e.symm).1; have := hb2.lt; omega)).trans hs.2.2.2.2.2⟩)
        (fun c s A B row hs hg hr => by
          obtain ⟨hc, q, x, e1, e2, e3, e4, e5⟩ := hs
          exact ⟨hc, q, x, e1, e2, e3, e4.kept hg (fun e => by have := (hr _ e.symm).1; omega), e5.grown hg e5.size (fun k e => Nat.le_trans HSZ.out (hr k e).1)⟩)
        ⟨X4.out, Y4.out, (fun _ h => by cases h), HB4.out, rfl, rfl⟩
        (fun x => { tmps := #[.pointer (some ⟨p, 0, none⟩), .pointer (some ⟨w.heap.size, 0, none⟩), .int .i64 0, .int .i64 cells, .int .i64 ring, .pointer (some ⟨w2.heap.size, 0, none⟩), .int .i64 x, .tuple #[.int .i64 cells, .int .i64 ring], .pointer (some ⟨p, 0, none⟩), .tuple #[.int .i64 cells, .int .i64 ring], .int .i64 cells, .int .i64 ring, .pointer (some ⟨p, 0, none⟩), .int .i64 n, .int .i64 ring, .int .i64 (n - ring), .int .i64 0, .pointer (some ⟨p, 0, none⟩), .int .i64 n, .bool (decide (n < 1)), .pointer (some ⟨p, 0, none⟩), .func (.func 34) #[] #[.pointer (some ⟨B1, 0, none⟩), .pointer (some ⟨B2, 0, none⟩)], .int .i64 x, undef, undef, undef, undef, undef, undef, undef, undef], defers := [] }) ?assign ?body ?done ?stop
      case assign =>
        intro lp x W K hK
        gi_wp2
        exact hK
      case body =>
        rintro lp pre x W ⟨hx0, hy0, hov, hB, hq1, hq2⟩ _
        have x0 := hx0.cell
        have hfy := hy0.frozen
        have hcy := hy0.cell
        have HB := Lib.hid hB
        have HX := Lib.hid hx0
        have HY := Lib.hid hy0
        have HQ := Lib.hid (And.intro hq1 hq2)
        have HOV := Lib.hid hov
        have HQL : Hid (B1 < W.heap.size ∧ B2 < W.heap.size) := ⟨by rw [hb1] at hq1; exact (Array.getElem?_eq_some_iff.1 hq1).1, by rw [hb2] at hq2; exact (Array.getElem?_eq_some_iff.1 hq2).1⟩
        clear hB hx0 hy0 hq1 hq2 hov
        gi_wp2_with fail
        refine ⟨trivial, ?_⟩
        refine (CallsIn.inRound lp (callsIn_wide.2 (HHD.out W x HB.out))).mono ?_; rintro e W1 ⟨rfl, hb⟩
        have HB1 := Lib.hid hb
        have HY1 : Hid (Boxed W1 w2.heap.size 2 (.int .i64 (lastZ 0 pre))) := (hb.block _ HY.out.lt).trans HY.out
        have HX1 : Hid (Boxed W1 w.heap.size 25 (.pointer (some ⟨p, 0, none⟩))) := (hb.block _ HX.out.lt).trans HX.out
        have hc1 := HY1.out.cell
        have hf1 := HY1.out.frozen
        have HWW : Hid (Below w.heap.size w W1) := HB.out.trans (hb.mono HB.out.size)
        have HKB : Hid (KpS w.heap.size B1 B2 W W1) := ⟨hb.mono HB.out.size, hb.block _ HQL.out.1, hb.block _ HQL.out.2⟩
        have HKS : Hid (∀ v, KpS w.heap.size B1 B2 W1 (W1.setCell ⟨w2.heap.size, 0, none⟩ v)) := fun v => ⟨(Below.refl w.heap.size W1).setCell (p := ⟨w2.heap.size, 0, none⟩) (Nat.le_of_lt hw0) v, (Chg.setCell W1 ⟨w2.heap.size, 0, none⟩ v).block B1 (Nat.lt_of_lt_of_le HQL.out.1 hb.size) (fun e => by have e' : B1 = w2.heap.size := e; omega), (Chg.setCell W1 ⟨w2.heap.size, 0, none⟩ v).block B2 (Nat.lt_of_lt_of_le HQL.out.2 hb.size) (fun e => by have e' : B2 = w2.heap.size := e; omega)⟩
        clear hb HX HY hfy hcy x0
        gi_wp2_with fail
        refine ⟨trivial, ?_⟩
        refine (CallsIn.inRound lp (callsIn_wide.2 (over_any _ x W1))).mono ?_; rintro e W' ⟨rfl, rfl⟩
        have HOX : Hid (overB (wordOf l 2 (slotZ x ring) 0) x = ovR l ring x) := rfl
        generalize hovx : overB (wordOf l 2 (slotZ x ring) 0) x = ox at *
        have HOXX := Lib.hid hovx
        clear hovx
        cases ox
        · gi_wp2
          exact ⟨keeps_below HB1.out, rfl, pre, x, rfl, HOV.out, HOX.out.symm, HY1.out, HWW.out⟩
        · gi_wp2
          refine ⟨(keeps_below HB1.out).trans (KeepsOthers.setCell _ _ _), HKB.out.t (HKS.out _), ?_, ?_, ?_, ?_, ?_, ?_⟩
          · exact ((Chg.setCell W1 ⟨w2.heap.size, 0, none⟩ _).block _ HX1.out.lt (fun e => by have e' : w.heap.size = w2.heap.size := e; omega)).trans HX1.out
          · rw [lastZ_snoc]; exact HY1.out.set _
          · intro s hs
            rcases List.mem_append.1 hs with h | h
            · exact HOV.out s h
            · rw [List.mem_singleton.1 h]; exact HOX.out.symm
          · exact HWW.out.setCell (p := ⟨w2.heap.size, 0, none⟩) (Nat.le_of_lt hw0) _
          · exact ((HKS.out _).2.1.trans HKB.out.2.1).trans HQ.out.1
          · exact ((HKS.out _).2.2.trans HKB.out.2.2).trans HQ.out.2
      case done =>
        rintro D ys W hD rfl ⟨hx0, hy0, hov, hB, _, _⟩ hK
        have hcy := hy0.cell
        have HB := Lib.hid hB
        have HE : Hid (complF (ovR l ring) (n - (manyR n ring : Int)) (stampsL n ring) = lastZ 0 (stampsL n ring)) := by
          show _ = _
          rw [show n - (manyR n ring : Int) = 0 by have := HM.out; omega]
          exact complF_all _ _ hov
        have hfrz := hy0.frozen
        clear hx0 hov hB
        gi_wp2
        refine ⟨by simp, .inl ⟨_, _, rfl, run_takeDeferred hK, ?_⟩⟩
        exact ⟨_, results_tmp rfl _ _ _, by rw [HE.out]; rfl, HB.out.trans (belowK_b (w := w) (Nat.le_refl _) W D _ _ (by have := HSZ.out; omega) hK rfl rfl)⟩
      case stop =>
        rintro D c pre W hD hp ⟨rfl, q, x, rfl, hq, hx, hy0, hB⟩ hK
        have hcy := hy0.cell
        have HB := Lib.hid hB
        have HE : Hid (complF (ovR l ring) (n - (manyR n ring : Int)) (stampsL n ring) = lastZ 0 q) := by
          show _ = _
          rw [show n - (manyR n ring : Int) = 0 by have := HM.out; omega]
          exact complF_stop hq hx hp
        have hfrz := hy0.frozen
        clear hq hx hp hB
        gi_wp2
        refine ⟨by simp, .inl ⟨_, _, rfl, run_takeDeferred hK, ?_⟩⟩
        exact ⟨_, results_tmp rfl _ _ _, by rw [HE.out]; rfl, HB.out.trans (belowK_b (w := w) (Nat.le_refl _) W D _ _ (by have := HSZ.out; omega) hK rfl rfl)⟩
end Go.Proofs.Ytphnhkoklnladaa
