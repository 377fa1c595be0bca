/- The ring that grows: Value. -/
import Derived.Test.YtcbjbmbibnmohaaCGb
import Derived.Test.YtcbjbmbibnmohaaSGb
import Derived.Test.YtcbjbmbibnmohaaCGr
import Derived.Test.YtcbjbmbibnmohaaC8d
import Derived.Test.YtcbjbmbibnmohaaC2h
import Derived.StillTailTactics
namespace Go.Proofs.Ytcbjbmbibnmohaa
open Go.RowKit
set_option linter.unusedVariables false
theorem valW_succ {ws : List (Int × Int)} {j : Nat} {r : Int × Int} (h : ws[j]? = some r) (c v : Int) : valW (ws.take (j + 1)) c v = if r.1 = c then r.2 else valW (ws.take j) c v := by
  obtain ⟨hl, rfl⟩ := List.getElem?_eq_some_iff.1 h
  rw [List.take_succ_eq_append_getElem hl, valW_snoc]
theorem valN_succ {es : List Ent} {k : Nat} {e : Ent} (h : es[k]? = some e) (c : Int) : valN es (k + 1) c = valW e.ws c (valN es k c) := by
  obtain ⟨hl, rfl⟩ := List.getElem?_eq_some_iff.1 h
  unfold valN
  rw [List.take_succ_eq_append_getElem hl, List.foldl_append]
  rfl
set_option maxHeartbeats 2000000 in
set_option maxRecDepth 100000 in
theorem value_any (x size : Nat) (g : GS) (hbig : g.es.length ≤ 100000000) (c stamp : Int) :
    Looks Try.prog 10 #[.pointer (some ⟨x, 0, none⟩), .int .i64 c, .int .i64 stamp] (GrowH x size g) (.returned (.int .i64 (valN g.es stamp.toNat c))) := by
  intro w F hO
  have HO := Lib.hid hO
  clear hO
  go_enter Try.func10, Try.ntmps10
  go_wp2_with fail
  go_loopw [7, 8] (fun v i wr => ∃ k : Nat, k ≤ g.es.length ∧ (k : Int) ≤ (stamp.toNat : Int) ∧ i = .int .i64 k ∧ v = .int .i64 (valN g.es k c) ∧ Hid (Below w.heap.size w wr)) (fun _ i _ => g.es.length - (intOf i).toNat)
  case atStart => exact ⟨0, by omega, by omega, rfl, rfl, Below.refl _ _⟩
  case round =>
    obtain ⟨k, hk, hks, rfl, rfl, HB⟩ := hrel
    have hG := (GrowH.good x size g).calm HO.out HB.out
    by_cases hlt : k < g.es.length
    · obtain ⟨e, he⟩ : ∃ e, g.es[k]? = some e := ⟨_, List.getElem?_eq_getElem hlt⟩
      obtain ⟨gb, lc, va, vc, hR, hE, gz, hw, _⟩ := hG.at he
      obtain ⟨p0, p1, p2, p3, fz⟩ := four_cells hR.hp
      have e0 := hE.e0
      have HW := Lib.hid hw
      have HVS := Lib.hid (valN_succ he c)
      clear hG hR hE hw
      by_cases hlt2 : (k : Int) < stamp
      · have d2 : decide ((k : Int) < stamp) = true := by simpa using hlt2
        have hwl : (e.ws.length : Int) ≤ 9223372036854775807 := by
          rcases HW.out.2 with ⟨h1, h2⟩ | ⟨_, cap, _, _, _, _, hnc, hcm, _⟩
          · simp at h1; omega
          · unfold maxLen at hcm; omega
        generalize valN g.es k c = v0 at *
        go_wp2_with fail
        go_loopw [7, 9] (fun v i wq => ∃ j : Nat, j ≤ e.ws.length ∧ i = .int .i64 j ∧ v = .int .i64 (valW (e.ws.take j) c v0) ∧ wq = wr) (fun _ i _ => e.ws.length - (intOf i).toNat)
        case atStart => exact ⟨0, by omega, rfl, rfl, rfl⟩
        case round =>
          obtain ⟨j, hj, rfl, rfl, rfl⟩ := hrel
          by_cases hltj : j < e.ws.length
          · obtain ⟨r, hr⟩ : ∃ r, e.ws[j]? = some r := ⟨_, List.getElem?_eq_getElem hltj⟩
            obtain ⟨wb, wc, hv, hwb, v1, v2, vz⟩ := wr_at HW.out hr
            obtain ⟨rfl, rfl⟩ : va = some ⟨wb, 0, none⟩ ∧ vc = wc := by simpa using hv
            have HN := Lib.hid (valW_succ hr c v0)
            clear hv hr
            by_cases hc : r.1 = c
            · have hN : valW (e.ws.take (j + 1)) c v0 = r.2 := by rw [HN.out, if_pos hc]
              have HN2 := Lib.hid hN
              have d3 : (r.1 == c) = true := by simpa using hc
              clear hN hc
              go_wp2_with fail
              go_roundw
              case rel => exact ⟨j + 1, by omega, by go_num, by rw [HN2.out], trivial⟩
              case measure => simp [intOf]; omega
            · have hN : valW (e.ws.take (j + 1)) c v0 = valW (e.ws.take j) c v0 := by rw [HN.out, if_neg hc]
              have HN2 := Lib.hid hN
              have d3 : (r.1 == c) = false := by simpa using hc
              clear hN
              go_wp2_with fail
              go_roundw
              case rel => exact ⟨j + 1, by omega, by go_num, by rw [HN2.out], trivial⟩
              case measure => simp [intOf]; omega
          · obtain rfl : j = e.ws.length := by omega
            go_wp2_with fail
            go_roundw
            case rel => exact ⟨k + 1, by omega, by omega, by go_num, by rw [HVS.out, List.take_length], HB.out⟩
            case measure => simp [intOf]; omega
      · have d2 : decide ((k : Int) < stamp) = false := by simpa using hlt2
        have HK : Hid (stamp.toNat = k) := by show stamp.toNat = k; omega
        go_wp2_with fail
        go_ret
        exact ⟨ret_i64 (by rw [HK.out]), HB.out⟩
    · obtain rfl : k = g.es.length := by omega
      obtain ⟨la, lc, hR⟩ := hG.read
      obtain ⟨p0, p1, p2, p3, fz⟩ := four_cells hR.hp
      have HN : Hid (valN g.es stamp.toNat c = valN g.es g.es.length c) := by
        show _ = _
        unfold valN
        rw [List.take_of_length_le (by omega), List.take_length]
      clear hG hR
      go_wp2_with fail
      go_ret
      exact ⟨ret_i64 (by rw [HN.out]), HB.out⟩
end Go.Proofs.Ytcbjbmbibnmohaa
namespace Go.Proofs.Ytcbjbmbibnmohaa
open Go.RowKit
set_option linter.unusedVariables false
theorem Star.mapL {A A' B : HP} {w : World} {F : Nat → Prop} (h : Star A B w F) (k : ∀ F, A w F → A' w F) : Star A' B w F := by
  obtain ⟨FA, FB, ha, hb, hF, hd⟩ := h
  exact ⟨FA, FB, k FA ha, hb, hF, hd⟩
theorem lift_swap2 {P : Program} {f : FuncId} {args : Array Value} {M M' G C C' D D' : HP} {v : Ending} (gG : Good G) (h : Lifts P f args (Star (Star M C) D) (Star (Star M' C') D') v) : Lifts P f args (Star (Star (Star M G) C) D) (Star (Star (Star M' G) C') D') v := by
  intro w F hO
  refine ((h.left gG) w F ((hO.mapL fun _ h => h.swap).swap)).mono ?_
  rintro e w' ⟨rfl, hs⟩
  exact ⟨rfl, hs.imp fun _ h => (h.swap).mapL fun _ h => h.swap⟩
theorem looks_lifts {P : Program} {f : FuncId} {args : Array Value} {O : HP} {v : Ending} (g : Good O) (h : Looks P f args O v) : Lifts P f args O O v := fun w F hO => (h w F hO).mono fun e w' ⟨he, hb⟩ => ⟨he, Stp.calm g hO hb⟩
theorem stepK_kinds (n : Nat) (fr : Int) (rs : Nat → Int) (last : Bool) (s : CS) (v : Int) : ((stepK n fr rs last s v).2.1 = 1 ∧ (stepK n fr rs last s v).2.2 = 0) ∨ ((stepK n fr rs last s v).2.1 = 2 ∧ (stepK n fr rs last s v).2.2 = 0) ∨ ((stepK n fr rs last s v).2.1 = 3 ∧ (stepK n fr rs last s v).2.2 = 0) ∨ ((stepK n fr rs last s v).2.1 = 4 ∧ (stepK n fr rs last s v).2.2 = 3) ∨ ((stepK n fr rs last s v).2.1 = 4 ∧ (stepK n fr rs last s v).2.2 = 4) := by
  unfold stepK
  repeat' split
  all_goals simp
theorem SafeInv.rng {n : Nat} {fr : Int} {rs : Nat → Int} {g : GS} {s : CS} (h : SafeInv n fr rs g s) (h4 : s.st < 4) (hb : g.es.length ≤ 100000000) : KRng s := by
  obtain ⟨a, b, c, d, h⟩ := h
  rcases h with ⟨k1, k2⟩ | ⟨k1, k2, k3, k4, k5, kz, k6⟩ | ⟨k1, k2, k3, k4, k5, k6, kz, ⟨m, k7, k8, k9⟩, k10⟩ | ⟨k1, k2, k3, k4⟩ | ⟨k1, k2, k3⟩ | h
  · exact .inl (.inl k1)
  · exact .inr (.inl ⟨k1, by omega, by omega⟩)
  · exact .inr (.inr ⟨k1, ⟨by omega, by omega⟩, m, k8, k7⟩)
  · exact .inl (.inr k1)
  · omega
  · omega
theorem SafeInv.new {n : Nat} {rs : Nat → Int} {g : GS} {fr : Int} (h : fr = g.done) : SafeInv n fr rs g ⟨0, fr, 0, 0, 0⟩ := ⟨by omega, by omega, Int.le_refl _, by simp only; omega, .inl ⟨rfl, rfl⟩⟩
/-- A step of check over a ring that grows, beside whatever. -/
theorem safe_step {w0 wr : World} {p gp x n cells k : Nat} {l : List Acc} {g : GS} {fr : Int} {rs : Nat → Int} {st : CS} {B : HP} (gb : Good B) (hn1 : 1 ≤ n) (hn2 : n ≤ 16) (hrs : Wds rs) (h : AtW w0 (Star (Star (MG p gp n cells l g) (ChkH x n fr rs true st)) B) wr) (ho : RingOk n cells g l k) (hi : SafeInv n fr rs g st) (hk : k ≤ 10000000) :
    Calls Try.prog 37 #[.pointer (some ⟨x, 0, none⟩), .pointer (some ⟨p, 0, none⟩), .int .i64 1] wr fun e w' => ∃ kd er bo l' st', e = .returned (ansV kd er 0 bo) ∧ AtW w0 (Star (Star (MG p gp n cells l' g) (ChkH x n fr rs true st')) B) w' ∧ RingOk n cells g l' (k + 1) ∧ SafeInv n fr rs g st' ∧
      ((kd = 0 ∧ er = 0) ∨ (kd = 1 ∧ er = 0 ∧ g.done < g.es.length) ∨ (kd = 2 ∧ er = 0) ∨ (kd = 3 ∧ er = 0) ∨ (kd = 4 ∧ er = 3 ∧ sharesG g.es fr g.es.length rs) ∨ (kd = 4 ∧ er = 4 ∧ fr + n < g.es.length)) := by
  by_cases hst : 4 ≤ st.st
  · refine ((Looks.left (B := B) (look_swap (B := GrowH gp n g) (chkStep_none p x n cells l n fr rs true st 1 (.inr hst)))).at (((MG.good _ _ _ _ _ _).star (BlkH.good _ _ _)).star gb) h).mono ?_
    rintro e w' ⟨rfl, h⟩
    exact ⟨0, 0, false, l, st, rfl, h, ho.more, hi, .inl ⟨rfl, rfl⟩⟩
  · have h4 : st.st < 4 := by omega
    have hl := ho.len
    have hm := ho.many
    have hS := SafeInv.step ho.inv hn1 hn2 hrs hi h4 true rfl
    have hK := stepK_kinds n fr rs true st (wordOf l (addrK n st).1 (addrK n st).2.1 (addrK n st).2.2)
    obtain ⟨⟨a, b, c⟩, ha⟩ : ∃ t, addrK n st = t := ⟨_, rfl⟩
    obtain ⟨v, hv⟩ : ∃ v, wordOf l a b c = v := ⟨_, rfl⟩
    obtain ⟨⟨st', kd, er⟩, hs⟩ : ∃ t, stepK n fr rs true st v = t := ⟨_, rfl⟩
    have hvI : I64 v := hv ▸ ho.inv.okw a b c
    rw [ha] at hS hK
    simp only at hS hK
    rw [hv, hs] at hS hK
    simp only at hS hK
    obtain ⟨s1, s2, s3, s4⟩ := hS
    refine ((Lifts.left gb (lift_swap (GrowH.good gp n g) (chkStep_go p x n cells l (by omega) hn1 hn2 fr hi.1 rs hrs true st 1 (hi.rng h4 (by omega)) a b c ha v hv hvI st' kd er hs))).at h).mono ?_
    rintro e w' ⟨rfl, h⟩
    refine ⟨kd, er, true, _, st', rfl, h, ho.ld _ _ _ _ _, s1, ?_⟩
    rcases hK with ⟨rfl, rfl⟩ | ⟨rfl, rfl⟩ | ⟨rfl, rfl⟩ | ⟨rfl, rfl⟩ | ⟨rfl, rfl⟩
    · exact .inr (.inl ⟨rfl, rfl, s4 rfl⟩)
    · exact .inr (.inr (.inl ⟨rfl, rfl⟩))
    · exact .inr (.inr (.inr (.inl ⟨rfl, rfl⟩)))
    · exact .inr (.inr (.inr (.inr (.inl ⟨rfl, rfl, s2 rfl⟩))))
    · exact .inr (.inr (.inr (.inr (.inr ⟨rfl, rfl, s3 rfl⟩))))
/-- What is told where it is through. -/
theorem SafeInv.thr {n : Nat} {fr : Int} {rs : Nat → Int} {g : GS} {s : CS} (h : SafeInv n fr rs g s) (h4 : s.st = 4) : ¬ sharesG g.es fr s.seen rs ∧ fr ≤ s.start ∧ s.start ≤ g.done ∧ s.seen ≤ g.es.length := by
  obtain ⟨a, b, c, d, h⟩ := h
  rcases h with h | h | h | h | h | h
  · omega
  · omega
  · omega
  · omega
  · exact ⟨h.2.2, c, d, h.2.1⟩
  · omega
theorem ints_grid {w : World} {a : Option Addr} {len : Nat} {q : Nat → Nat → Int} (h : Grid w a len 1 q) : ∃ zs, IntsAt w a len zs := by
  refine ⟨(List.range len).map (fun i => q i 0), by simp, h.imp id ?_⟩
  rintro ⟨b, off, e, hb, hc⟩
  refine ⟨b, off, e, hb, fun i hi => ?_⟩
  have h := hc i hi 0 (by omega)
  rw [Nat.mul_one, Nat.add_zero] at h
  rw [h]
  congr 2
  simp [List.getD, hi]
end Go.Proofs.Ytcbjbmbibnmohaa
