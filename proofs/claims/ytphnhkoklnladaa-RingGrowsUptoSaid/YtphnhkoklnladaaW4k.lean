/- The walk of RingGrows. -/
import Derived.Test.YtphnhkoklnladaaW4g
import Derived.Deep.CutBlock
import Derived.Deep.CutRange
namespace Go.Proofs.Ytphnhkoklnladaa
open Go.RowKit
set_option linter.unusedVariables false
theorem slot_tmod {x : Int} {size : Nat} (h1 : 1 ≤ size) (h2 : size ≤ 16) (hx : 0 ≤ x) : x.tmod size = slotZ x size := by
  rw [slotZ_in h1 h2, Int.tmod_eq_emod, if_pos (.inl hx)]; omega
set_option maxRecDepth 100000 in
set_option maxHeartbeats 40000000 in
theorem ringGrows_law {w : World} (raw : Int) (_hw : (Lit.int .i64 raw).wf = true) (a0 : Option Addr) (len cap : Nat) (q : Nat → Nat → Int) (hg : Grid w a0 len 1 q) (hlc : len ≤ cap) (hcm : cap ≤ maxLen) (hq : ∀ i j, (Lit.int .i64 (q i j)).wf = true) (hsmall : len ≤ 1048576) :
    Calls Try.prog 3 #[.int .i64 raw, .slice a0 len cap] w fun e w' => e = .returned (.bool true) ∧ Below w.heap.size w w' := by
  have HG := Lib.hid hg
  unfold maxLen at hcm
  have hp := pick4_range raw 16 (by decide)
  obtain ⟨size, hn⟩ : ∃ n : Nat, 1 + pick4Z raw 16 = n := ⟨(1 + pick4Z raw 16).toNat, by omega⟩
  have hs1 : 1 ≤ size := by omega
  have hs2 : size ≤ 16 := by omega
  have HP := Lib.hid (pick4_any raw 16 (by decide) (by decide))
  have HP3 := Lib.hid (fun x => pick4_any x 3 (by decide) (by decide))
  have HR3 := Lib.hid (fun x => pick4_range x 3 (by decide))
  generalize pick4Z raw 16 = pz at *
  obtain rfl : pz = (size : Int) - 1 := by omega
  have e0 : (1 : Int) + ((size : Int) - 1) = size := by omega
  have HM := Lib.hid (memNew_any 1 size (by decide) (by decide) hs1 (by omega))
  clear _hw hq hg hp hn
  go_enter Try.func3, Try.ntmps3
  go_wp2_with fail
  refine (shown4g_any w).mono ?_; rintro e w' ⟨rfl, rfl⟩
  go_wp2_with fail
  refine (HP.out w).mono ?_; rintro e w' ⟨rfl, rfl⟩
  go_wp2_with fail
  refine (HM.out w).mono ?_; rintro e w3 ⟨p, rfl, h⟩
  have H5 : Hid (GrAt w p size 0 0 0 0 w3) := ⟨[], h, rg_nil, Nat.zero_le _, okW_nil, by omega⟩
  clear h HM HP
  go_wp2_with fail
  go_loopw [9, 10, 11, 12] (fun nv av dv i wr => ∃ (k : Nat) (n a d : Int), k ≤ len ∧ i = .int .i64 k ∧ nv = .int .i64 n ∧ av = .int .i64 a ∧ dv = .int .i64 d ∧ Hid (GrAt w p size k n a d wr)) (fun _ _ _ i _ => len - (intOf i).toNat)
  case atStart => exact ⟨0, 0, 0, 0, by omega, rfl, rfl, rfl, rfl, H5.out⟩
  case round =>
    obtain ⟨k, n, a, d, hk, rfl, rfl, rfl, rfl, HE⟩ := hrel
    clear H5
    by_cases hlt : k < len
    · obtain ⟨b, off, rfl, hbw, hcell⟩ := HG.out.resolve_left (by omega)
      have hbel := HE.out.below
      have c0 := (hbel.cell (p := ⟨b, off + k * 1 + 0, none⟩) hbw).trans (hcell k hlt 0 (by omega))
      simp only [Nat.add_zero, Nat.mul_one] at c0
      obtain ⟨r0, r1, r2, r3, r4⟩ := HE.out.rel
      clear hcell hbel
      go_wp2_with fail
      refine (HP3.out _ _).mono ?_; rintro e w' ⟨rfl, rfl⟩
      obtain ⟨v0, v3⟩ := HR3.out (q k 0)
      generalize pick4Z (q k 0) 3 = v at *
      clear c0
      go_upto_block 2 with (fail)
      go_cut [9, 10, 11] from 47 to 97 (fun nv av dv wx => ∃ (n a d : Int), nv = .int .i64 n ∧ av = .int .i64 a ∧ dv = .int .i64 d ∧ Hid (GrAt w p size (k + 1) n a d wx))
      case first =>
        by_cases hv0 : v = 0
        · subst hv0
          by_cases hc : n - d < size
          · have HX := Lib.hid (gr_pub HE.out (by omega) hc)
            go_wp2_with fail
            refine HX.out.mono ?_; rintro e w6 ⟨⟨z, rfl⟩, h⟩
            have HA := Lib.hid h
            clear h HX HE
            go_wp2_with fail
            go_meet
            case rel => exact ⟨_, _, _, rfl, rfl, rfl, HA.out⟩
          · have HA := Lib.hid HE.out.up
            clear HE
            go_wp2_with fail
            go_meet
            case rel => exact ⟨_, _, _, rfl, rfl, rfl, HA.out⟩
        · by_cases hv1 : v = 1
          · subst hv1
            by_cases hc : a < n
            · have HX := Lib.hid (gr_lay1 HE.out (by omega))
              rw [slotZ_in hs1 hs2] at HX
              go_wp2_with fail
              refine HX.out.mono ?_; rintro e w5 ⟨⟨z, rfl⟩, h⟩
              have HX := Lib.hid (gr_lay2 hs1 hs2 h (by omega) hc)
              rw [slotZ_in hs1 hs2] at HX
              clear h
              go_wp2_with fail
              refine HX.out.mono ?_; rintro e w6 ⟨⟨z, rfl⟩, h⟩
              have HA := Lib.hid h
              clear h HX HE
              go_wp2_with fail
              go_meet
              case rel => exact ⟨_, _, _, rfl, rfl, rfl, HA.out⟩
            · have HA := Lib.hid HE.out.up
              clear HE
              go_wp2_with fail
              go_meet
              case rel => exact ⟨_, _, _, rfl, rfl, rfl, HA.out⟩
          · obtain rfl : v = 2 := by omega
            by_cases hc : d < a
            · have HX := Lib.hid (gr_done hs1 hs2 HE.out (by omega) hc)
              rw [slotZ_in hs1 hs2] at HX
              go_wp2_with fail
              refine HX.out.mono ?_; rintro e w6 ⟨⟨z, rfl⟩, h⟩
              have HA := Lib.hid h
              clear h HX HE
              go_wp2_with fail
              go_meet
              case rel => exact ⟨_, _, _, rfl, rfl, rfl, HA.out⟩
            · have HA := Lib.hid HE.out.up
              clear HE
              go_wp2_with fail
              go_meet
              case rel => exact ⟨_, _, _, rfl, rfl, rfl, HA.out⟩
      clear HE r0 r1 r2 r3 r4 v0 v3
      obtain ⟨n, a, d, rfl, rfl, rfl, HA⟩ := hcut
      obtain ⟨r0, r1, r2, r3, r4⟩ := HA.out.rel
      have HX := Lib.hid (gr_newest HA.out)
      go_wp2_with fail
      refine HX.out.mono ?_; rintro e w7 ⟨rfl, h⟩
      have HY := Lib.hid (gr_complete hs1 hs2 h)
      clear h HX HA
      go_wp2_with fail
      refine HY.out.mono ?_; rintro e w8 ⟨rfl, h⟩
      have HZ := Lib.hid (gr_entries hs1 hs2 h)
      clear h HY
      go_wp2_with fail
      refine HZ.out.mono ?_; rintro e w9 ⟨g, m, c, mk, fs, xs, rfl, hm, hxs, hown, hms, h⟩
      have HA := Lib.hid h
      have HOWN := Lib.hid hown
      have HMS := Lib.hid hms
      have HXS := Lib.hid hxs
      have HM := Lib.hid hm
      have hmm : (m : Int) = min n size := by rw [hm]; unfold manyR; omega
      clear h HZ hown hms hxs hm
      by_cases hns : n ≤ size
      · have hmn : (m : Int) = n := by omega
        clear hmm
        go_wp2_with fail
        go_loopw [18] (fun jv wi => ∃ j : Nat, j ≤ m ∧ jv = .int .i64 j ∧ Hid (GrAt w p size (k + 1) n a d wi ∧ wi.ownsRow w8.heap.size 39 10 (.slice g m c) m (entsG mk fs xs))) (fun jv _ => m - (intOf jv).toNat)
        case atStart => exact ⟨0, by omega, rfl, HA.out, HOWN.out⟩
        case round =>
          obtain ⟨j, hj, rfl, HI⟩ := hrel
          by_cases hjm : j < m
          · have hxj : xs[j]? = some (n - ((m : Int) - 1 - j)) := by
              rw [HXS.out]; unfold stampsL; rw [← HM.out]; simp [hjm]; omega
            have hxl : xs.length = m := by rw [HXS.out, stampsL_len, HM.out]
            obtain ⟨g', c', he, z0, z1, _, _, _, z5, _, _, _, _, zz⟩ := ents_at HI.out.2 hxl hxj
            obtain ⟨rfl, rfl⟩ : g = some ⟨g', 0, none⟩ ∧ c = c' := by simp at he; exact ⟨he.1, he.2⟩
            obtain ⟨e1, e2⟩ := HMS.out (n - ((m : Int) - 1 - j)) (by omega) (by omega) (by omega)
            rw [e1] at z1
            rw [e2] at z5
            clear he e1 e2 zz hxj hxl
            by_cases hxd : n - ((m : Int) - 1 - j) ≤ d
            · have hxa : n - ((m : Int) - 1 - j) ≤ a := by omega
              rw [if_pos hxd] at z1
              rw [if_pos hxa] at z5
              go_wp2_with fail
              go_roundw
              case rel => exact ⟨j + 1, by omega, by go_num, HI.out⟩
              case measure => simp [intOf]; omega
            · by_cases hxa : n - ((m : Int) - 1 - j) ≤ a
              · rw [if_neg hxd, if_pos hxa] at z1
                rw [if_pos hxa] at z5
                go_wp2_with fail
                go_roundw
                case rel => exact ⟨j + 1, by omega, by go_num, HI.out⟩
                case measure => simp [intOf]; omega
              · rw [if_neg hxd, if_neg hxa] at z1
                rw [if_neg hxa] at z5
                go_wp2_with fail
                go_roundw
                case rel => exact ⟨j + 1, by omega, by go_num, HI.out⟩
                case measure => simp [intOf]; omega
          · obtain rfl : j = m := by omega
            go_wp2_with fail
            go_roundw
            case rel => exact ⟨k + 1, n, a, d, by omega, by go_num, rfl, rfl, rfl, HI.out.1⟩
            case measure => simp [intOf]; omega
      · have hmn : (m : Int) = size := by omega
        clear hmm
        go_wp2_with fail
        go_loopw [18] (fun jv wi => ∃ j : Nat, j ≤ m ∧ jv = .int .i64 j ∧ Hid (GrAt w p size (k + 1) n a d wi ∧ wi.ownsRow w8.heap.size 39 10 (.slice g m c) m (entsG mk fs xs))) (fun jv _ => m - (intOf jv).toNat)
        case atStart => exact ⟨0, by omega, rfl, HA.out, HOWN.out⟩
        case round =>
          obtain ⟨j, hj, rfl, HI⟩ := hrel
          by_cases hjm : j < m
          · have hxj : xs[j]? = some (n - ((m : Int) - 1 - j)) := by
              rw [HXS.out]; unfold stampsL; rw [← HM.out]; simp [hjm]; omega
            have hxl : xs.length = m := by rw [HXS.out, stampsL_len, HM.out]
            obtain ⟨g', c', he, z0, z1, _, _, _, z5, _, _, _, _, zz⟩ := ents_at HI.out.2 hxl hxj
            obtain ⟨rfl, rfl⟩ : g = some ⟨g', 0, none⟩ ∧ c = c' := by simp at he; exact ⟨he.1, he.2⟩
            obtain ⟨e1, e2⟩ := HMS.out (n - ((m : Int) - 1 - j)) (by omega) (by omega) (by omega)
            rw [e1] at z1
            rw [e2] at z5
            clear he e1 e2 zz hxj hxl
            by_cases hxd : n - ((m : Int) - 1 - j) ≤ d
            · have hxa : n - ((m : Int) - 1 - j) ≤ a := by omega
              rw [if_pos hxd] at z1
              rw [if_pos hxa] at z5
              go_wp2_with fail
              go_roundw
              case rel => exact ⟨j + 1, by omega, by go_num, HI.out⟩
              case measure => simp [intOf]; omega
            · by_cases hxa : n - ((m : Int) - 1 - j) ≤ a
              · rw [if_neg hxd, if_pos hxa] at z1
                rw [if_pos hxa] at z5
                go_wp2_with fail
                go_roundw
                case rel => exact ⟨j + 1, by omega, by go_num, HI.out⟩
                case measure => simp [intOf]; omega
              · rw [if_neg hxd, if_neg hxa] at z1
                rw [if_neg hxa] at z5
                go_wp2_with fail
                go_roundw
                case rel => exact ⟨j + 1, by omega, by go_num, HI.out⟩
                case measure => simp [intOf]; omega
          · obtain rfl : j = m := by omega
            go_wp2_with fail
            go_roundw
            case rel => exact ⟨k + 1, n, a, d, by omega, by go_num, rfl, rfl, rfl, HI.out.1⟩
            case measure => simp [intOf]; omega
    · obtain rfl : k = len := by omega
      have HB := Lib.hid HE.out.below
      go_wp2_with fail
      go_ret
      exact ⟨rfl, HB.out⟩
end Go.Proofs.Ytphnhkoklnladaa
