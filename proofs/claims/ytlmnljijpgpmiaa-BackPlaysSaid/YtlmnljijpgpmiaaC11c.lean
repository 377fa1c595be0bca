/- Layer 11: the machine's words, writes, lays. -/
import Derived.Test.YtlmnljijpgpmiaaC11b
namespace Go.Proofs.Ytlmnljijpgpmiaa
open Go.RowKit
set_option linter.unusedVariables false
theorem two_at11 {w : World} {p : Nat} {a b : Value} {T : TypeId} (h : w.heap[p]? = some (.cells #[a, b] T)) : w.cell? ⟨p, 0, none⟩ = some a ∧ w.cell? ⟨p, 1, none⟩ = some b ∧ ∀ o, w.frozen? ⟨p, o, none⟩ = false :=
  ⟨by simp [World.cell?, h], by simp [World.cell?, h], fun o => by simp [World.frozen?, h]⟩
theorem bakWrites_any (p x cells : Nat) (d : BD) (hd : BDOk d) (l : List Acc) (hlen : l.length ≤ 3000000000000) (b : BK) (h0 : 0 < b.left) (h1 : b.left ≤ d.W.length) (hc : ∀ y ∈ d.W, 0 ≤ y.1 ∧ y.1 < (cells : Int)) (th : Int) :
    Lifts Try.prog 55 #[.pointer (some ⟨x, 0, none⟩), .pointer (some ⟨p, 0, none⟩), .int .i64 th] (KB p x cells d l b) (KB p x cells d (l ++ [stAcc th 4 (wrK d.W b).1 0 (wrK d.W b).2]) (rdyK { b with left := b.left - 1 })) (.returned (.int .i64 2)) := by
  rintro w F hO
  have hR := KB.rd (Stp.refl hO)
  have c3 := hR.c3
  have c13 := hR.c13
  have fz := hR.fz
  obtain ⟨k, hk⟩ : ∃ k, d.W.length = k + b.left := ⟨d.W.length - b.left, by omega⟩
  obtain ⟨⟨v1, v2⟩, hv⟩ : ∃ v, d.W[k]? = some v := ⟨_, List.getElem?_eq_getElem (by omega)⟩
  have HWR : Hid (wrK d.W b = (v1, v2)) := by show _ = _; unfold wrK; rw [show d.W.length - b.left = k by omega, hv]; rfl
  obtain ⟨F2, hrow, _⟩ := (Stp.refl hO).has.right.left
  obtain ⟨g, c, hlv, q0, q1⟩ := row_at hrow hv
  have hm := hc _ (List.mem_of_getElem? hv)
  have hgl : g < w.heap.size := by
    rw [hlv] at hrow
    exact (hrow.lt g rfl).2
  have hxl : x < w.heap.size := heap_lt (Stp.refl hO).has.right.right.blk
  rw [hlv, hk] at c3
  have HL := Lib.hid (fun w1 (h : Stp w w1 F (Star (KB p x cells d l b) (BlkH w.heap.size #[.int .i64 v1, .int .i64 v2] 29))) => Stp.lift (Lifts.left (BlkH.good _ _ _) (KB.mem (x := x) (b := b) (store_in p d.n cells l hlen th 4 v1 0 v2 (.inr (.inr (.inr ⟨rfl, hm, rfl⟩)))))) h)
  have GO := Lib.hid (KB.good p x cells d l b)
  have HO := Lib.hid (Stp.refl hO)
  rw [HWR.out]
  have HSET : Hid (∀ w1 v, v = ((b.left - 1 : Nat) : Int) → Stp w w1 F (KB p x cells d (l ++ [stAcc th 4 v1 0 v2]) b) → Stp w (w1.setCell ⟨x, 13, none⟩ (.int .i64 v)) F (KB p x cells d (l ++ [stAcc th 4 v1 0 v2]) { b with left := b.left - 1 })) := fun w1 v hv h => by
    subst hv
    exact h.move (KB.mv (BlkH.set (cs := bakC x d b) 13 (.int .i64 ((b.left - 1 : Nat) : Int))))
  have HRD := Lib.hid (fun w1 (h : Stp w w1 F (KB p x cells d (l ++ [stAcc th 4 v1 0 v2]) { b with left := b.left - 1 })) => Stp.lift (KB.of (p := p) (cells := cells) (l := l ++ [stAcc th 4 v1 0 v2]) (bakReady_any x d { b with left := b.left - 1 })) h)
  have hlen24 := hd.len
  rw [hk] at hlen24 h1
  have hkl : (k : Int) < ((k + b.left : Nat) : Int) := by omega
  clear hO hR hrow hlv hm hv hc hd hk
  generalize hB : b.left = bl at *
  go_enter Try.func55, Try.ntmps55
  go_wp2_with fail
  go_region
  have HBX := Lib.hid ((HO.out.box GO.out #[.int .i64 v1, .int .i64 v2] 29).drew (GO.out.star (BlkH.good _ _ _)))
  clear q0 q1 c3 c13 fz hgl HO
  generalize (w.alloc (.cells #[.int .i64 v1, .int .i64 v2] 29)).drew = w1 at *
  obtain ⟨b0, b1, bz⟩ := two_at11 HBX.out.has.right.blk
  have GOB := Lib.hid (GO.out.star (BlkH.good w.heap.size #[.int .i64 v1, .int .i64 v2] 29))
  go_wp2_with fail
  refine (HL.out _ HBX.out).mono ?_; rintro e w2 ⟨rfl, h2⟩
  have H2 := Lib.hid h2.fst
  have hR := KB.rd h2.fst
  have c13 := hR.c13
  rw [hB] at c13
  have fz := hR.fz
  have HB1 : Hid (((bl : Nat) : Int) - 1 = ((bl - 1 : Nat) : Int)) := by show _ = _; omega
  clear h2 hR b0 b1 bz HBX HL GOB
  go_wp2_with fail
  refine (HRD.out _ (HSET.out _ _ HB1.out H2.out)).mono ?_; rintro e w3 ⟨rfl, h⟩
  go_wp2_with fail
  go_ret
  exact ⟨rfl, h⟩
theorem bakWords_meets (p x cells : Nat) (d : BD) (hd : BDOk d) (l : List Acc) (hlen : l.length ≤ 3000000000000) (b : BK) (m : Nat) (hm : m < 8) (hw : b.word = m) (th v : Int) (hvI : I64 v) (hV : wordOf l 3 (slotZ b.sp d.n) m = v) (hb : bits .and .u64 (IntKind.u64.wrap v) (d.s m) ≠ 0) :
    Lifts Try.prog 72 #[.pointer (some ⟨x, 0, none⟩), .pointer (some ⟨p, 0, none⟩), .int .i64 th] (KB p x cells d l b) (KB p x cells d (l ++ [ldAcc th 3 (slotZ b.sp d.n) m v]) { b with nx := 4 }) (.returned (.int .i64 2)) := by
  rintro w F hO
  have hR := KB.rd (Stp.refl hO)
  have c15 := hR.c15
  have c16 := hR.c16
  rw [hw] at c16
  have fz := hR.fz
  have GO := Lib.hid (KB.good p x cells d l b)
  have G2 := Lib.hid (KB.good p x cells d (l ++ [ldAcc th 3 (slotZ b.sp d.n) m v]) b)
  have HO := Lib.hid (Stp.refl hO)
  have HSL := Lib.hid (bakSlot_at w.drew x d.n b.sp (by simpa using hR.c0) (by simpa using hR.fz))
  have HL := Lib.hid (Stp.lift (KB.mem (x := x) (b := b) (load_in p d.n cells l hlen th 3 (slotZ b.sp d.n) m (.inr (.inr (.inl ⟨rfl, slotZ_lt b.sp d.n (by have := hd.n; omega) (by have := hd.n; omega), by omega, by omega⟩))))) ((Stp.refl hO).drew GO.out))
  rw [hV] at HL
  have hm8 : (m : Int) < 8 := by omega
  have hm0 : (0 : Int) ≤ m := by omega
  obtain ⟨hv1, hv2⟩ := hvI
  have e2 : (bits .and .u64 (IntKind.u64.wrap v) (d.s m) != 0) = true := by simp [hb]
  have hmf := run_mkFunc
  have hst := run_stFunc
  have HSET : Hid (∀ w1, Stp w w1 F (KB p x cells d (l ++ [ldAcc th 3 (slotZ b.sp d.n) m v]) b) → Stp w (w1.setCell ⟨x, 18, none⟩ (nxV x 4)) F (KB p x cells d (l ++ [ldAcc th 3 (slotZ b.sp d.n) m v]) { b with nx := 4 })) := fun w1 h => h.move (KB.mv (bak_put x d b 4))
  clear hO hR hd hV hb
  go_enter Try.func72, Try.ntmps72
  go_wp2_with fail
  go_region_held3 (fun wx => wx.cell? ⟨x, 15, none⟩ = some (.int .i64 b.sp) ∧ wx.cell? ⟨x, 16, none⟩ = some (.int .i64 m)) (first | exact ⟨c15, c16⟩ | (refine ⟨?_, ?_⟩ <;> assumption)) (first | (go_at_call 42; refine HSL.out.mono ?_; rintro e w' ⟨rfl, rfl⟩) | (go_at_call 71; refine HL.out.mono ?_; rintro e w2 ⟨rfl, h2⟩; have H2 := Lib.hid h2; have k15 := (KB.rd h2).c15; have k16 := (KB.rd h2).c16; rw [hw] at k16))
  clear HL HSL c15 c16 fz HO h2 k15 k16
  have hR := KB.rd H2.out
  have k16 := hR.c16
  rw [hw] at k16
  have kd := hR.rd m hm
  have kz := hR.fz
  clear hR
  go_wp2_with fail
  go_quiet (fail)
  have H3 : Hid (Stp w (w2.drewN nq) F _) := H2.out.below G2.out (below_drewN (Below.refl _ _) _)
  have hR := KB.rd H3.out
  have k18 := hR.c18
  have kz := hR.fz
  clear hR k16 kd H2
  generalize w2.drewN nq = w3 at *
  go_wp2_with fail
  go_ret
  exact ⟨rfl, HSET.out _ H3.out⟩
theorem bakWords_go (p x cells : Nat) (d : BD) (hd : BDOk d) (l : List Acc) (hlen : l.length ≤ 3000000000000) (b : BK) (m : Nat) (hm : m < 8) (hw : b.word = m) (hsp : 1 ≤ b.sp ∧ b.sp < d.st) (th v : Int) (hvI : I64 v) (hV : wordOf l 3 (slotZ b.sp d.n) m = v) (hb : bits .and .u64 (IntKind.u64.wrap v) (d.s m) = 0) :
    Lifts Try.prog 72 #[.pointer (some ⟨x, 0, none⟩), .pointer (some ⟨p, 0, none⟩), .int .i64 th] (KB p x cells d l b) (KB p x cells d (l ++ [ldAcc th 3 (slotZ b.sp d.n) m v]) (wdgK d.n d.st d.s b (m + 1))) (.returned (.int .i64 2)) := by
  rintro w F hO
  have hR := KB.rd (Stp.refl hO)
  have c15 := hR.c15
  have c16 := hR.c16
  rw [hw] at c16
  have fz := hR.fz
  have GO := Lib.hid (KB.good p x cells d l b)
  have G2 := Lib.hid (KB.good p x cells d (l ++ [ldAcc th 3 (slotZ b.sp d.n) m v]) b)
  have HO := Lib.hid (Stp.refl hO)
  have HSL := Lib.hid (bakSlot_at w.drew x d.n b.sp (by simpa using hR.c0) (by simpa using hR.fz))
  have HL := Lib.hid (Stp.lift (KB.mem (x := x) (b := b) (load_in p d.n cells l hlen th 3 (slotZ b.sp d.n) m (.inr (.inr (.inl ⟨rfl, slotZ_lt b.sp d.n (by have := hd.n; omega) (by have := hd.n; omega), by omega, by omega⟩))))) ((Stp.refl hO).drew GO.out))
  rw [hV] at HL
  have hm8 : (m : Int) < 8 := by omega
  have hm0 : (0 : Int) ≤ m := by omega
  obtain ⟨hv1, hv2⟩ := hvI
  have e2 : (bits .and .u64 (IntKind.u64.wrap v) (d.s m) != 0) = false := by simp [hb]
  have HWD := Lib.hid (fun w1 (h : Stp w w1 F (KB p x cells d (l ++ [ldAcc th 3 (slotZ b.sp d.n) m v]) b)) => Stp.lift (KB.of (p := p) (cells := cells) (l := l ++ [ldAcc th 3 (slotZ b.sp d.n) m v]) (bakWording_any x d b (m + 1) (by omega) (by rw [hw]; omega) hd.n.2 hd.st hsp)) h)
  clear hO hR hd hV hb
  go_enter Try.func72, Try.ntmps72
  go_wp2_with fail
  go_region_held3 (fun wx => wx.cell? ⟨x, 15, none⟩ = some (.int .i64 b.sp) ∧ wx.cell? ⟨x, 16, none⟩ = some (.int .i64 m)) (first | exact ⟨c15, c16⟩ | (refine ⟨?_, ?_⟩ <;> assumption)) (first | (go_at_call 42; refine HSL.out.mono ?_; rintro e w' ⟨rfl, rfl⟩) | (go_at_call 71; refine HL.out.mono ?_; rintro e w2 ⟨rfl, h2⟩; have H2 := Lib.hid h2; have k15 := (KB.rd h2).c15; have k16 := (KB.rd h2).c16; rw [hw] at k16))
  clear HL HSL c15 c16 fz HO h2 k15 k16
  have hR := KB.rd H2.out
  have k16 := hR.c16
  rw [hw] at k16
  have kd := hR.rd m hm
  have kz := hR.fz
  clear hR
  go_wp2_with fail
  go_quiet (fail)
  have H3 : Hid (Stp w (w2.drewN nq) F _) := H2.out.below G2.out (below_drewN (Below.refl _ _) _)
  clear k16 kd kz H2
  generalize w2.drewN nq = w3 at *
  go_wp2_with fail
  refine (HWD.out _ H3.out).mono ?_; rintro e w4 ⟨rfl, h⟩
  go_wp2_with fail
  go_ret
  exact ⟨rfl, h⟩
end Go.Proofs.Ytlmnljijpgpmiaa
