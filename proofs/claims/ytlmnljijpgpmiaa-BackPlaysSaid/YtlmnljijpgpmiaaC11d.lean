/- Layer 11: the machine lays. -/
import Derived.Test.YtlmnljijpgpmiaaC11c
namespace Go.Proofs.Ytlmnljijpgpmiaa
open Go.RowKit
set_option linter.unusedVariables false
set_option maxHeartbeats 2000000 in
theorem bakLays_word (p x cells : Nat) (d : BD) (hd : BDOk d) (l : List Acc) (hlen : l.length ≤ 3000000000000) (b : BK) (h8 : b.laid < 8) (th : Int) :
    Lifts Try.prog 26 #[.pointer (some ⟨x, 0, none⟩), .pointer (some ⟨p, 0, none⟩), .int .i64 th] (KB p x cells d l b) (KB p x cells d (l ++ [stAcc th 3 (slotZ d.st d.n) b.laid (wrap64 (d.s b.laid))]) { b with laid := b.laid + 1 }) (.returned (.int .i64 2)) := by
  rintro w F hO
  have hR := KB.rd (Stp.refl hO)
  have c2 := hR.c2
  have c14 := hR.c14
  have cd := hR.rd _ h8
  have fz := hR.fz
  have GO := Lib.hid (KB.good p x cells d l b)
  have HO := Lib.hid (Stp.refl hO)
  have HSL := Lib.hid (bakSlot_at w.drew x d.n d.st (by simpa using hR.c0) (by simpa using hR.fz))
  have HL := Lib.hid (Stp.lift (KB.mem (x := x) (b := b) (store_in p d.n cells l hlen th 3 (slotZ d.st d.n) b.laid (wrap64 (d.s b.laid)) (.inr (.inr (.inl ⟨rfl, slotZ_lt d.st d.n (by have := hd.n; omega) (by have := hd.n; omega), by omega, by omega⟩))))) ((Stp.refl hO).drew GO.out))
  have h8i : (b.laid : Int) < 8 := by omega
  have h0i : (0 : Int) ≤ b.laid := by omega
  have HB8 := Lib.hid h8
  have HSET : Hid (∀ w1 v, v = ((b.laid + 1 : Nat) : Int) → Stp w w1 F (KB p x cells d (l ++ [stAcc th 3 (slotZ d.st d.n) b.laid (wrap64 (d.s b.laid))]) b) → Stp w (w1.setCell ⟨x, 14, none⟩ (.int .i64 v)) F (KB p x cells d (l ++ [stAcc th 3 (slotZ d.st d.n) b.laid (wrap64 (d.s b.laid))]) { b with laid := b.laid + 1 })) := fun w1 v hv h => by
    subst hv
    exact h.move (KB.mv (BlkH.set (cs := bakC x d b) 14 (.int .i64 ((b.laid + 1 : Nat) : Int))))
  clear hO hR hd
  generalize hL : b.laid = bl at *
  generalize hz : d.s bl = z at *
  have HZ : Hid (IntKind.i64.wrap z = wrap64 z) := by
    show _ = _
    first | rfl | (rw [IntKind.wrap_i64]; unfold wrap64; rfl) | (rw [IntKind.wrap_i64]; unfold wrap64; omega)
  go_enter Try.func26, Try.ntmps26
  go_wp2_with fail
  go_region_held3 (fun wx => wx.cell? ⟨x, 2, none⟩ = some (.int .i64 d.st) ∧ wx.cell? ⟨x, 14, none⟩ = some (.int .i64 bl) ∧ wx.cell? ⟨x, 4 + bl, none⟩ = some (.int .u64 z)) (first | exact ⟨c2, c14, cd⟩ | (refine ⟨?_, ?_, ?_⟩ <;> assumption)) (first | (go_at_call 42; (with_reducible refine HSL.out.mono ?_); rintro e w' ⟨rfl, rfl⟩) | (go_at_call 10; rw [HZ.out]; (with_reducible refine HL.out.mono ?_); rintro e w2 ⟨rfl, h2⟩; have H2 := Lib.hid h2; have k2 := (KB.rd h2).c2; have k14 := (KB.rd h2).c14; rw [hL] at k14; have kd := (KB.rd h2).rd _ HB8.out; rw [hz] at kd))
  have hR := KB.rd H2.out
  have kz := hR.fz
  have HB1 : Hid (((bl : Nat) : Int) + 1 = ((bl + 1 : Nat) : Int)) := by show _ = _; omega
  clear h2 hR k2 kd c2 c14 cd fz HL HSL HO
  go_wp2_with fail
  go_ret
  exact ⟨rfl, HSET.out _ _ HB1.out H2.out⟩
set_option maxHeartbeats 2000000 in
theorem bakLays_known (p x cells : Nat) (d : BD) (hd : BDOk d) (l : List Acc) (hlen : l.length ≤ 3000000000000) (b : BK) (h8 : b.laid = 8) (hk : b.known = true) (th : Int) :
    Lifts Try.prog 26 #[.pointer (some ⟨x, 0, none⟩), .pointer (some ⟨p, 0, none⟩), .int .i64 th] (KB p x cells d l b) (KB p x cells d (l ++ [stAcc th 2 (slotZ d.st d.n) 0 (headZ d.st false)]) (rdyK b)) (.returned (.int .i64 2)) := by
  rintro w F hO
  have hR := KB.rd (Stp.refl hO)
  have c2 := hR.c2
  have c14 := hR.c14
  rw [h8] at c14
  have fz := hR.fz
  have GO := Lib.hid (KB.good p x cells d l b)
  have HO := Lib.hid (Stp.refl hO)
  have HSL := Lib.hid (bakSlot_at w.drew x d.n d.st (by simpa using hR.c0) (by simpa using hR.fz))
  have HH := Lib.hid (fun w => head_any d.st false w)
  have HL := Lib.hid (Stp.lift (KB.mem (x := x) (b := b) (store_in p d.n cells l hlen th 2 (slotZ d.st d.n) 0 (headZ d.st false) (.inr (.inl ⟨rfl, slotZ_lt d.st d.n (by have := hd.n; omega) (by have := hd.n; omega), rfl⟩)))) ((Stp.refl hO).drew GO.out))
  have HRD := Lib.hid (fun w1 (h : Stp w w1 F (KB p x cells d (l ++ [stAcc th 2 (slotZ d.st d.n) 0 (headZ d.st false)]) b)) => Stp.lift (KB.of (p := p) (cells := cells) (l := l ++ [stAcc th 2 (slotZ d.st d.n) 0 (headZ d.st false)]) (bakReady_any x d b)) h)
  clear hO hR hd
  go_enter Try.func26, Try.ntmps26
  go_wp2_with fail
  go_region_held3 (fun wx => wx.cell? ⟨x, 2, none⟩ = some (.int .i64 d.st)) (first | exact c2 | assumption) (first | (go_at_call 42; (with_reducible refine HSL.out.mono ?_); rintro e w' ⟨rfl, rfl⟩) | (go_at_call 43; (with_reducible refine (HH.out _).mono ?_); rintro e w' ⟨rfl, rfl⟩) | (go_at_call 10; (with_reducible refine HL.out.mono ?_); rintro e w2 ⟨rfl, h2⟩; have H2 := Lib.hid h2; have k2 := (KB.rd h2).c2))
  have hR := KB.rd H2.out
  have k17 := hR.c17
  rw [hk] at k17
  have kz := hR.fz
  clear h2 hR c2 c14 fz HL HSL HO HH
  go_wp2_with fail
  refine (HRD.out _ H2.out).mono ?_; rintro e w3 ⟨rfl, h⟩
  go_wp2_with fail
  go_ret
  exact ⟨rfl, h⟩
set_option maxHeartbeats 2000000 in
theorem bakLays_older (p x cells : Nat) (d : BD) (hd : BDOk d) (l : List Acc) (hlen : l.length ≤ 3000000000000) (b : BK) (h8 : b.laid = 8) (hk : b.known = false) (th : Int) :
    Lifts Try.prog 26 #[.pointer (some ⟨x, 0, none⟩), .pointer (some ⟨p, 0, none⟩), .int .i64 th] (KB p x cells d l b) (KB p x cells d (l ++ [stAcc th 2 (slotZ d.st d.n) 0 (headZ d.st false)]) (oldK d.n d.st b (d.st - 1))) (.returned (.int .i64 2)) := by
  rintro w F hO
  have hR := KB.rd (Stp.refl hO)
  have c2 := hR.c2
  have c14 := hR.c14
  rw [h8] at c14
  have fz := hR.fz
  have GO := Lib.hid (KB.good p x cells d l b)
  have HO := Lib.hid (Stp.refl hO)
  have HSL := Lib.hid (bakSlot_at w.drew x d.n d.st (by simpa using hR.c0) (by simpa using hR.fz))
  have HH := Lib.hid (fun w => head_any d.st false w)
  have HL := Lib.hid (Stp.lift (KB.mem (x := x) (b := b) (store_in p d.n cells l hlen th 2 (slotZ d.st d.n) 0 (headZ d.st false) (.inr (.inl ⟨rfl, slotZ_lt d.st d.n (by have := hd.n; omega) (by have := hd.n; omega), rfl⟩)))) ((Stp.refl hO).drew GO.out))
  obtain ⟨hs1, hs2⟩ := hd.st
  have HRD := Lib.hid (fun w1 (h : Stp w w1 F (KB p x cells d (l ++ [stAcc th 2 (slotZ d.st d.n) 0 (headZ d.st false)]) b)) => Stp.lift (KB.of (p := p) (cells := cells) (l := l ++ [stAcc th 2 (slotZ d.st d.n) 0 (headZ d.st false)]) (bakOlder_any x d b (d.st - 1) hd.n.2 hd.st)) h)
  clear hO hR hd
  go_enter Try.func26, Try.ntmps26
  go_wp2_with fail
  go_region_held3 (fun wx => wx.cell? ⟨x, 2, none⟩ = some (.int .i64 d.st)) (first | exact c2 | assumption) (first | (go_at_call 42; (with_reducible refine HSL.out.mono ?_); rintro e w' ⟨rfl, rfl⟩) | (go_at_call 43; (with_reducible refine (HH.out _).mono ?_); rintro e w' ⟨rfl, rfl⟩) | (go_at_call 10; (with_reducible refine HL.out.mono ?_); rintro e w2 ⟨rfl, h2⟩; have H2 := Lib.hid h2; have k2 := (KB.rd h2).c2))
  have hR := KB.rd H2.out
  have k17 := hR.c17
  rw [hk] at k17
  have kz := hR.fz
  clear h2 hR c2 c14 fz HL HSL HO HH
  go_wp2_with fail
  refine (HRD.out _ H2.out).mono ?_; rintro e w3 ⟨rfl, h⟩
  go_wp2_with fail
  go_ret
  exact ⟨rfl, h⟩
theorem equalIn_fn (P : Program) (d : Nat) (t : TypeId) (as1 bs1 : Array TypeId) (c1 : Bool) (h : P.underlying t = some (.func as1 bs1 c1)) (fn : Fn) (first cap : Array Value) (w : World) : (Op.equalIn (d + 1) t (.func fn first cap) .nilFunc).run P w = .ok false w := by simp [Op.equalIn, run_underlying h]
theorem equalIn_fn0 (P : Program) (d : Nat) (t : TypeId) (as1 bs1 : Array TypeId) (c1 : Bool) (h : P.underlying t = some (.func as1 bs1 c1)) (w : World) : (Op.equalIn (d + 1) t .nilFunc .nilFunc).run P w = .ok true w := by simp [Op.equalIn, run_underlying h]
theorem eq_nilFunc (fn : Fn) (first cap : Array Value) (w : World) : (binOp .eql 80 (.func fn first cap) .nilFunc).run Try.prog w = .ok (.bool false) w := by
  simp only [binOp]
  simp [Op.equal, Op.maxDepth, equalIn_fn Try.prog 9999 _ _ _ _ Try.underlying80]
theorem eq_nilFunc0 (w : World) : (binOp .eql 80 .nilFunc .nilFunc).run Try.prog w = .ok (.bool true) w := by
  simp only [binOp]
  simp [Op.equal, Op.maxDepth, equalIn_fn0 Try.prog 9999 _ _ _ _ Try.underlying80]
set_option maxRecDepth 100000 in
set_option maxHeartbeats 2000000 in
theorem bakStep_on (p x cells : Nat) (d : BD) (l : List Acc) (b : BK) (Ox : HP) (gO : Good Ox) (kd th : Int) (f : FuncId) (hf : nxV x b.nx = .func (.func f) #[.pointer (some ⟨x, 0, none⟩)] #[]) (hfs : f = 26 ∨ f = 58 ∨ f = 72 ∨ f = 73 ∨ f = 55 ∨ f = 56 ∨ f = 57) (hm : d.W.length = 0 ∨ d.most < cells)
    (hL : Lifts Try.prog f #[.pointer (some ⟨x, 0, none⟩), .pointer (some ⟨p, 0, none⟩), .int .i64 th] (KB p x cells d l b) Ox (.returned (.int .i64 kd))) :
    Lifts Try.prog 11 #[.pointer (some ⟨x, 0, none⟩), .pointer (some ⟨p, 0, none⟩), .int .i64 th] (KB p x cells d l b) Ox (.returned (ansV kd 0 0 true)) := by
  rintro w F hO
  have hxlt : x < w.heap.size := heap_lt (Stp.refl hO).has.right.right.blk
  have hne : x ≠ w.heap.size := by omega
  have hne2 : w.heap.size ≠ x := by omega
  have GR := Lib.hid (BlkH.good w.heap.size #[.int .i64 0, .int .i64 0, .int .i64 0, .bool false] 46)
  have GMX := Lib.hid (KB.good p x cells d l b)
  have H0 := Lib.hid ((Stp.refl hO).box GMX.out #[.int .i64 0, .int .i64 0, .int .i64 0, .bool false] 46)
  have HS := Lib.hid (Looks.left (B := BlkH w.heap.size #[.int .i64 0, .int .i64 0, .int .i64 0, .bool false] 46) (Looks.left (B := Star (RowH d.lv d.W) (BakH x d b)) (sizes_any p d.n cells l)))
  have hRx := KB.rd (Stp.refl hO)
  have k18 := hRx.c18
  rw [hf] at k18
  have kz := hRx.fz
  clear hRx
  have e1 : ((d.n : Int) != (d.n : Int)) = false := by simp
  obtain ⟨F2, hrow, _⟩ := (Stp.refl hO).has.right.left
  obtain ⟨lb, lc, hlv⟩ := ownAt_form hrow
  have hen := eq_nilFunc
  have HLV := Lib.hid hlv
  have HM := Lib.hid hm
  have HFS := Lib.hid hfs
  have HLL := Lib.hid hL
  have HF := Lib.hid hf
  clear hO hrow hlv hm hL hf hfs
  go_enter Try.func11, Try.ntmps11
  go_wp2_with fail
  refine (Stp.look (GMX.out.star GR.out) HS.out H0.out).mono ?_
  rintro e w1 ⟨rfl, h1⟩
  have H1 := Lib.hid h1
  have hR := KB.rd h1.fst
  have c0 := hR.c0
  have c3 := hR.c3
  rw [HLV.out] at c3
  have c12 := hR.c12
  have c18 := hR.c18
  rw [HF.out] at c18
  have fz := hR.fz
  clear h1 H0 HS hR k18 kz
  have hfs := HFS.out
  by_cases hz : d.W.length = 0
  · rw [hz] at c3
    rcases hfs with rfl | rfl | rfl | rfl | rfl | rfl | rfl
    all_goals
      go_wp2_with fail
      refine (Stp.lift (Lifts.left GR.out HLL.out) H1.out).mono ?_
      rintro e w9 ⟨rfl, h9⟩
      have H9 := Lib.hid h9
      obtain ⟨r0, r1, r2, r3, rz⟩ := four_cells h9.has.right.blk
      clear h9

      go_wp2_with fail
      refine bodyPost_ret (v := _) (by simp [results, Try.results11, go_sem, r0, r1, r2, r3]; rfl) rfl ?_
      exact ⟨rfl, (((((H9.out).move (Moves.right gO (BlkH.set 0 _))).move (Moves.right gO (BlkH.set 1 _))).move (Moves.right gO (BlkH.set 2 _))).move (Moves.right gO (BlkH.set 3 _))).fst⟩
  · have h0 : (0 : Int) < (d.W.length : Int) := by omega
    have hd2 : d.most < (cells : Int) := HM.out.resolve_left hz
    rcases hfs with rfl | rfl | rfl | rfl | rfl | rfl | rfl
    all_goals
      go_wp2_with fail
      refine (Stp.lift (Lifts.left GR.out HLL.out) H1.out).mono ?_
      rintro e w9 ⟨rfl, h9⟩
      have H9 := Lib.hid h9
      obtain ⟨r0, r1, r2, r3, rz⟩ := four_cells h9.has.right.blk
      clear h9

      go_wp2_with fail
      refine bodyPost_ret (v := _) (by simp [results, Try.results11, go_sem, r0, r1, r2, r3]; rfl) rfl ?_
      exact ⟨rfl, (((((H9.out).move (Moves.right gO (BlkH.set 0 _))).move (Moves.right gO (BlkH.set 1 _))).move (Moves.right gO (BlkH.set 2 _))).move (Moves.right gO (BlkH.set 3 _))).fst⟩
end Go.Proofs.Ytlmnljijpgpmiaa
