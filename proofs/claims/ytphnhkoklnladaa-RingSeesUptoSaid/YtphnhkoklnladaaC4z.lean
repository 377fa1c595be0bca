/- Layer 4: the law's sees. -/
import Derived.Test.YtphnhkoklnladaaC4u
import Derived.Test.YtphnhkoklnladaaC4y
import Derived.Deep.MidRow
namespace Go.Proofs.Ytphnhkoklnladaa
open Go.RowKit Go.Shelf
set_option linter.unusedVariables false
theorem row_set {w : World} {B T n c g : Nat} {xs : List Value} (h : w.ownsRow B T 10 (.slice (some ⟨g, 0, none⟩) n c) n xs) (k : Nat) (hk : k < n * 10) (u : Value) : (w.setCell ⟨g, k, none⟩ u).ownsRow B T 10 (.slice (some ⟨g, 0, none⟩) n c) n (xs.set k u) := by
  obtain ⟨g1, c1, hv, _, _, _, _, hs⟩ := own_parts h (by omega)
  simp at hv
  obtain ⟨rfl, _⟩ := hv
  exact hs k u hk
theorem row_sets {B T n c g : Nat} : ∀ (vs : List Value) (o : Nat) (w : World) (xs : List Value), w.ownsRow B T 10 (.slice (some ⟨g, 0, none⟩) n c) n xs → o + vs.length ≤ n * 10 → ∃ ys, (w.setCells g o vs).ownsRow B T 10 (.slice (some ⟨g, 0, none⟩) n c) n ys
  | [], _, _, xs, h, _ => ⟨xs, h⟩
  | v :: vs, o, w, xs, h, hl => by
    simp only [List.length_cons] at hl
    exact row_sets vs (o + 1) _ _ (row_set h o (by omega) v) (by omega)
theorem below_sets {w0 : World} {B g : Nat} (hg : B ≤ g) : ∀ (vs : List Value) (o : Nat) (w : World), Below B w0 w → Below B w0 (w.setCells g o vs)
  | [], _, _, h => h
  | v :: vs, o, w, h => below_sets hg vs (o + 1) _ (h.setCell (p := ⟨g, o, none⟩) hg v)
theorem row_ten {w : World} {B T n c g : Nat} {xs : List Value} (h : w.ownsRow B T 10 (.slice (some ⟨g, 0, none⟩) n c) n xs) (k : Nat) (hk : k < n) (j : Nat) (hj : j < 10) : ∃ u, w.cell? ⟨g, k * 10 + j, none⟩ = some u := by
  have hl := h.1
  obtain ⟨g1, c1, hv, _, _, hc, _, _⟩ := own_parts h (by omega)
  simp at hv
  obtain ⟨rfl, _⟩ := hv
  have he := hc (k * 10 + j) (by omega)
  have hlt : k * 10 + j < xs.length := by omega
  exact ⟨_, he.trans (List.getElem?_eq_getElem hlt)⟩
def fsR (l : List Acc) (ring : Nat) (s : Int) : Nat → Int := fun j => if ldR l ring s then sgR l ring s j else 0
theorem entsR_G (l : List Acc) (ring : Nat) (xs : List Int) : entsR l ring xs = entsG (mkR l ring) (fsR l ring) xs := rfl
set_option maxRecDepth 100000 in
set_option maxHeartbeats 1000000 in
theorem sees4_any (p r ring cells : Nat) (h1 : 1 ≤ ring) (h2 : ring ≤ 16) (l : List Acc) (hlen : l.length ≤ 100000000000) (hok : OkW l) (w : World) (FA FB : Nat → Prop) (hA : MemH p ring cells l w FA) (hB : RMemH r ring cells l w FB) :
    Calls Try.prog 15 #[.pointer (some ⟨p, 0, none⟩), .pointer (some ⟨r, 0, none⟩)] w fun e w' => e = .returned (.bool true) ∧ Below w.heap.size w w' := by
  obtain ⟨i0, hi, hz0, hz1, hz2⟩ := info_parts infoEnt
  have H1 := Lib.hid (newest_any p ring cells l w FA hA)
  have H2 := Lib.hid (fun w1 (hb : Below w.heap.size w w1) => refNewest_any r ring cells l hlen w1 FB ((RMemH.good _ _ _ _).calm hB hb))
  have H3 := Lib.hid (fun w1 (hb : Below w.heap.size w w1) => complete_any p ring cells h1 h2 l hok w1 FA ((MemH.good _ _ _ _).calm hA hb))
  have H4 := Lib.hid (fun w1 (hb : Below w.heap.size w w1) => refComplete_any r ring cells h1 h2 l hlen hok w1 FB ((RMemH.good _ _ _ _).calm hB hb))
  have H5 := Lib.hid (fun w1 (hb : Below w.heap.size w w1) => entries_any p ring cells h1 h2 l hok w1 FA ((MemH.good _ _ _ _).calm hA hb))
  have H6 := Lib.hid (fun w1 (hb : Below w.heap.size w w1) => refEntries_any r ring cells h1 h2 l hlen hok w1 FB ((RMemH.good _ _ _ _).calm hB hb))
  unfold EntsGot at H5
  simp only [entsR_G] at H5 H6
  have hN : (stampsL (wordOf l 1 0 0) ring).length ≤ 16 := by rw [stampsL_len]; unfold manyR; omega
  obtain ⟨N, hNe⟩ : ∃ N, (stampsL (wordOf l 1 0 0) ring).length = N := ⟨_, rfl⟩
  rw [hNe] at H5 H6 hN
  have HNE := Lib.hid hNe
  clear hA hB hok hNe
  generalize stampsL (wordOf l 1 0 0) ring = xs at *
  generalize mkR l ring = mk at *
  generalize fsR l ring = fs at *
  generalize complZ l ring = cz at *
  generalize wordOf l 1 0 0 = nw at *
  go_enter Try.func15, Try.ntmps15
  go_wp2_with fail
  refine H1.out.mono ?_; rintro e w1 ⟨rfl, hb⟩
  have B1 := Lib.hid hb
  clear hb H1
  go_wp2_with fail
  refine (H2.out w1 B1.out).mono ?_; rintro e w2 ⟨rfl, hb⟩
  have B2 := Lib.hid (B1.out.trans (hb.mono B1.out.size))
  clear hb H2 B1
  go_wp2_with fail
  refine (H3.out w2 B2.out).mono ?_; rintro e w3 ⟨rfl, hb⟩
  have B3 := Lib.hid (B2.out.trans (hb.mono B2.out.size))
  clear hb H3 B2
  go_wp2_with fail
  refine (H4.out w3 B3.out).mono ?_; rintro e w4 ⟨rfl, hb⟩
  have B4 := Lib.hid (B3.out.trans (hb.mono B3.out.size))
  clear hb H4 B3
  go_wp2_with fail
  refine (H5.out w4 B4.out).mono ?_; rintro e w5 ⟨v, rfl, hv, hb⟩
  have B5 := Lib.hid (B4.out.trans (hb.mono B4.out.size))
  have HV := Lib.hid hv
  have hsz4 := B4.out.size
  clear hb H5 B4 hv
  go_wp2_with fail
  refine (H6.out w5 B5.out).mono ?_; rintro e w6 ⟨u, rfl, hu, hb⟩
  have B6 := Lib.hid (B5.out.trans (hb.mono B5.out.size))
  have HV6 := Lib.hid (own_calm HV.out hb)
  have HU6 := Lib.hid hu
  clear hb H6 B5 hu HV
  go_wp2_with fail
  refine (ents4_any v u N _ _ mk fs xs HNE.out hN w6 HV6.out HU6.out).mono ?_; rintro e w7 ⟨rfl, hb⟩
  have B7 := Lib.hid (B6.out.trans (hb.mono B6.out.size))
  have HV7 := Lib.hid (own_calm HV6.out hb)
  obtain ⟨a, ca, rfl⟩ := ownAt_form HV6.out
  obtain ⟨b, cb, rfl⟩ := ownAt_form HU6.out
  clear hb HV6 HU6 B6
  obtain ⟨B, hB⟩ : ∃ B, w4.heap.size = B := ⟨_, rfl⟩
  rw [hB] at HV7 hsz4
  clear hB
  go_wp2_with fail
  go_loopw [12] (fun i wr => ∃ k : Nat, k ≤ N ∧ i = .int .i64 k ∧ Hid (∃ ys, wr.ownsRow B 39 10 (.slice a N ca) N ys) ∧ Hid (Below w.heap.size w wr)) (fun i _ => N - (intOf i).toNat)
  case atStart => exact ⟨0, by omega, rfl, ⟨_, HV7.out⟩, B7.out⟩
  case round =>
    obtain ⟨k, hk, rfl, HR, HB⟩ := hrel
    obtain ⟨ys, hown⟩ := HR.out
    by_cases hlt : k < N
    · obtain ⟨g, c, he, hg, _, _, hf, _⟩ := own_parts hown (by omega)
      obtain ⟨rfl, rfl⟩ : a = some ⟨g, 0, none⟩ ∧ ca = c := by simp at he; exact ⟨he.1, he.2⟩
      obtain ⟨cs, hcs⟩ : ∃ cs : Array Value, cs = #[.int .i64 (-1), .int .i64 0, .int .u64 0, .int .u64 0, .int .u64 0, .int .u64 0, .int .u64 0, .int .u64 0, .int .u64 0, .int .u64 0] := ⟨_, rfl⟩
      have hth : wr.there g (k * 10) cs.size := fun j hj => ⟨by obtain ⟨o, x⟩ := row_ten hown k hlt j (by rw [hcs] at hj; exact hj); rw [x]; rfl, hf _⟩
      have HC1 : Hid ((Try.prog.info? 39).map (·.size) = some cs.size) := by show _ = _; rw [hcs]; kernel_rfl
      have HC2 : Hid (cs.all (·.oneCell') = true) := by show _ = _; rw [hcs]; kernel_rfl
      have HC3 := Lib.hid hcs
      clear hcs
      have HNX := Lib.hid (row_sets [.int .i64 (-1), .int .i64 0, .int .u64 0, .int .u64 0, .int .u64 0, .int .u64 0, .int .u64 0, .int .u64 0, .int .u64 0, .int .u64 0] (k * 10) wr ys hown (by simp; omega))
      have HBX := Lib.hid (below_sets (g := g) (by omega) [.int .i64 (-1), .int .i64 0, .int .u64 0, .int .u64 0, .int .u64 0, .int .u64 0, .int .u64 0, .int .u64 0, .int .u64 0, .int .u64 0] (k * 10) wr HB.out)
      clear he hown
      go_wp2_with (refine wpList_store_mid ?hgd 39 (.tmp 37) (.tmp 36) ?hop g (k * 10) cs ?hx ?hy hth HC1.out HC2.out ?hg; (case hop => with_reducible rfl); (case hgd => with_reducible rfl); (case hx => rfl); (case hy => rw [HC3.out]; rfl))
      rw [HC3.out]
      go_roundw
      case rel => exact ⟨k + 1, by omega, by go_num, HNX.out, HBX.out⟩
      case measure => simp [intOf]; omega
    · obtain rfl : k = N := by omega
      have hrow := own_base (B' := w.heap.size) hown (fun j hj => Nat.le_trans hsz4 (hown.lt j hj).1)
      go_wp2_with (at_builtin; refine wpList_append_own_at _ rfl (.tmp 38) (.tmp 40) 33 rfl w.heap.size 39 i0 (.agg #[.int .i64 0, .int .i64 0, .int .u64 0, .int .u64 0, .int .u64 0, .int .u64 0, .int .u64 0, .int .u64 0, .int .u64 0, .int .u64 0]) 10 80 Try.underlying33 hi hz0 hz1 hz2 rfl (by decide) _ _ _ rfl (hrow.alloc _) ⟨wr.heap.size, 0, none⟩ 1 1 (entC 0 0 (fun _ => 0)) rfl rfl ?c1 ?c2 ?c3 ?c4 ?c5 ?_)
      case c1 => exact ten_at _ _ _ _ _ _ (by simp)
      case c2 => exact entC_one _ _ _
      case c3 => unfold maxLen; omega
      case c4 => omega
      case c5 => rw [World.size_alloc]; exact Nat.le_succ_of_le HB.out.size
      · intro v' w9 hown' hgrow _ _
        have hb9 : Below w.heap.size wr w9 := ((Below.refl w.heap.size _).alloc HB.out.size _).grown hgrow (by rw [World.size_alloc]; exact Nat.le_succ_of_le HB.out.size) (fun j hj => Nat.le_trans hsz4 (hown.lt j hj).1)
        have HB9 := Lib.hid (HB.out.trans hb9)
        obtain ⟨a9, c9, rfl⟩ := ownAt_form hown'
        clear hown' hgrow hown hrow hb9
        go_wp2_with fail
        go_ret
        exact ⟨ret_bool (by simp), HB9.out⟩
end Go.Proofs.Ytphnhkoklnladaa
