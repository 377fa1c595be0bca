/- Layer 11: the program's machine beside a memory; each of its steps. -/
import Derived.Test.YtlmnljijpgpmiaaC11
import Derived.Test.YtlmnljijpgpmiaaC3d
import Derived.Deep.RegionHeld3
import Derived.RegionTactic
import Derived.Deep.RegionLaw
namespace Go.Proofs.Ytlmnljijpgpmiaa
open Go.RowKit
set_option linter.unusedVariables false
def wcells (W : List (Int × Int)) : List Value := W.flatMap fun x => [.int .i64 x.1, .int .i64 x.2]
/-- A list of what is written. -/
def RowH (lv : Value) (W : List (Int × Int)) : HP := fun w F => w.ownsRow 0 29 2 lv W.length (wcells W) ∧ ∀ b, F b ↔ lv.ownBlock = some b
theorem RowH.good (lv : Value) (W : List (Int × Int)) : Good (RowH lv W) where
  chg := by
    rintro w w' F S ⟨h1, h2⟩ hc hS
    exact ⟨own_chg h1 hc (fun b hb => hS b ((h2 b).2 hb)), h2⟩
  lt := by
    rintro w F b ⟨h1, h2⟩ h
    exact (h1.lt b ((h2 b).1 h)).2
theorem wcells_len (W : List (Int × Int)) : (wcells W).length = W.length * 2 := by
  unfold wcells
  induction W with
  | nil => rfl
  | cons x W ih => simp at ih ⊢; omega
theorem wcells_at {W : List (Int × Int)} {k : Nat} {x : Int × Int} (h : W[k]? = some x) : (wcells W)[k * 2]? = some (.int .i64 x.1) ∧ (wcells W)[k * 2 + 1]? = some (.int .i64 x.2) := by
  induction W generalizing k with
  | nil => simp at h
  | cons y W ih =>
    cases k with
    | zero =>
      simp at h
      subst h
      simp [wcells]
    | succ k =>
      have := ih (k := k) (by simpa using h)
      rw [show (k + 1) * 2 = k * 2 + 2 by omega]
      simpa [wcells] using this
theorem row_at {w : World} {lv : Value} {W : List (Int × Int)} (h : w.ownsRow 0 29 2 lv W.length (wcells W)) {k : Nat} {x : Int × Int} (hx : W[k]? = some x) : ∃ g c, lv = .slice (some ⟨g, 0, none⟩) W.length c ∧ w.cell? ⟨g, k * 2, none⟩ = some (.int .i64 x.1) ∧ w.cell? ⟨g, k * 2 + 1, none⟩ = some (.int .i64 x.2) := by
  have hk : k < W.length := (List.getElem?_eq_some_iff.1 hx).1
  obtain ⟨g, c, hv, _, _, hc, _, _⟩ := own_parts h (by omega)
  obtain ⟨a1, a2⟩ := wcells_at hx
  exact ⟨g, c, hv, (hc _ (by omega)).trans a1, (hc _ (by omega)).trans a2⟩
/-- The machine beside a memory. -/
abbrev KB (p x cells : Nat) (d : BD) (l : List Acc) (b : BK) : HP := Star (MemH p d.n cells l) (Star (RowH d.lv d.W) (BakH x d b))
theorem KB.good (p x cells : Nat) (d : BD) (l : List Acc) (b : BK) : Good (KB p x cells d l b) := (MemH.good _ _ _ _).star ((RowH.good _ _).star (BlkH.good _ _ _))
theorem KB.rd {p x cells : Nat} {d : BD} {l : List Acc} {b : BK} {w w1 : World} {F : Nat → Prop} (h : Stp w w1 F (KB p x cells d l b)) : BakR w1 x d b := bak_cells h.has.right.right.blk
theorem KB.of {p x cells : Nat} {d : BD} {l : List Acc} {b b' : BK} {f : FuncId} {args : Array Value} {v : Ending} (h : Lifts Try.prog f args (BakH x d b) (BakH x d b') v) : Lifts Try.prog f args (KB p x cells d l b) (KB p x cells d l b') v := Lifts.right (MemH.good _ _ _ _) (Lifts.right (RowH.good _ _) h)
theorem KB.mem {p x cells : Nat} {d : BD} {l l' : List Acc} {b : BK} {f : FuncId} {args : Array Value} {v : Ending} (h : Lifts Try.prog f args (MemH p d.n cells l) (MemH p d.n cells l') v) : Lifts Try.prog f args (KB p x cells d l b) (KB p x cells d l' b) v := Lifts.left ((RowH.good _ _).star (BlkH.good _ _ _)) h
theorem KB.mv {p x cells : Nat} {d : BD} {l : List Acc} {b b' : BK} {w w' : World} (h : Moves (BakH x d b) (BakH x d b') w w') : Moves (KB p x cells d l b) (KB p x cells d l b') w w' := Moves.right (MemH.good _ _ _ _) (Moves.right (RowH.good _ _) h)
/-- What it was made of may be. -/
structure BDOk (d : BD) : Prop where
  n : 1 ≤ d.n ∧ d.n ≤ 16
  st : 1 ≤ d.st ∧ d.st ≤ 1099511627776
  len : d.W.length ≤ 24
  s : Wds d.s
theorem bakSlot_at (w : World) (x : Nat) (n : Nat) (sp : Int) (c0 : w.cell? ⟨x, 0, none⟩ = some (.int .i64 n)) (fz : ∀ o, w.frozen? ⟨x, o, none⟩ = false) : Calls Try.prog 42 #[.pointer (some ⟨x, 0, none⟩), .int .i64 sp] w fun e w' => e = .returned (.int .i64 (slotZ sp n)) ∧ w = w' := by
  have HS := Lib.hid (fun w => slot_any sp n w)
  go_enter Try.func42, Try.ntmps42
  go_wp2_with fail
  refine (HS.out w).mono ?_; rintro e w' ⟨rfl, rfl⟩
  go_wp2_with fail
  go_ret
  exact ⟨rfl, rfl⟩
theorem bakHead_any (p x cells : Nat) (d : BD) (hd : BDOk d) (l : List Acc) (hlen : l.length ≤ 3000000000000) (b : BK) (th sp : Int) :
    Lifts Try.prog 64 #[.pointer (some ⟨x, 0, none⟩), .pointer (some ⟨p, 0, none⟩), .int .i64 th, .int .i64 sp] (KB p x cells d l b) (KB p x cells d (l ++ [ldAcc th 2 (slotZ sp d.n) 0 (wordOf l 2 (slotZ sp d.n) 0)]) b) (.returned (.int .i64 (wordOf l 2 (slotZ sp d.n) 0))) := by
  rintro w F hO
  have hR := KB.rd (Stp.refl hO)
  have HSL := Lib.hid (bakSlot_at w x d.n sp hR.c0 hR.fz)
  have HL := Lib.hid (Stp.lift (KB.mem (x := x) (b := b) (load_in p d.n cells l hlen th 2 (slotZ sp d.n) 0 (.inr (.inl ⟨rfl, slotZ_lt sp d.n (by have := hd.n; omega) (by have := hd.n; omega), rfl⟩)))) (Stp.refl hO))
  clear hO hR hd
  go_enter Try.func64, Try.ntmps64
  go_wp2_with fail
  refine HSL.out.mono ?_; rintro e w' ⟨rfl, rfl⟩
  go_wp2_with fail
  refine HL.out.mono ?_; rintro e w2 ⟨rfl, h⟩
  have H2 := Lib.hid h
  clear h HL
  go_wp2_with fail
  go_ret
  exact ⟨rfl, H2.out⟩
theorem bakLooks_over (p x cells : Nat) (d : BD) (hd : BDOk d) (l : List Acc) (hlen : l.length ≤ 3000000000000) (b : BK) (th v : Int) (hV : wordOf l 2 (slotZ b.sp d.n) 0 = v) (ho : overB v b.sp = true) :
    Lifts Try.prog 58 #[.pointer (some ⟨x, 0, none⟩), .pointer (some ⟨p, 0, none⟩), .int .i64 th] (KB p x cells d l b) (KB p x cells d (l ++ [ldAcc th 2 (slotZ b.sp d.n) 0 v]) (ovrK d.st b)) (.returned (.int .i64 2)) := by
  rintro w F hO
  have hR := KB.rd (Stp.refl hO)
  have c15 := hR.c15
  have fz := hR.fz
  have HD := Lib.hid (Stp.lift (bakHead_any p x cells d hd l hlen b th b.sp) (Stp.refl hO))
  have HOV := Lib.hid (fun w1 (h : Stp w w1 F (KB p x cells d (l ++ [ldAcc th 2 (slotZ b.sp d.n) 0 v]) b)) => Stp.lift (KB.of (p := p) (cells := cells) (l := l ++ [ldAcc th 2 (slotZ b.sp d.n) 0 v]) (bakOver_any x d b hd.st)) h)
  rw [hV] at HD
  have HO2 := Lib.hid (fun w => over_any v b.sp w)
  rw [ho] at HO2
  clear hO hR hd ho hV
  go_enter Try.func58, Try.ntmps58
  go_wp2_with fail
  refine HD.out.mono ?_; rintro e w2 ⟨rfl, h⟩
  have H2 := Lib.hid h
  have hR := KB.rd h
  have c15 := hR.c15
  have fz := hR.fz
  clear h HD hR
  go_wp2_with fail
  refine (HO2.out _).mono ?_; rintro e w3 ⟨rfl, rfl⟩
  go_wp2_with fail
  refine (HOV.out _ H2.out).mono ?_; rintro e w3 ⟨rfl, h⟩
  go_wp2_with fail
  go_ret
  exact ⟨rfl, h⟩
theorem bakLooks_wait (p x cells : Nat) (d : BD) (hd : BDOk d) (l : List Acc) (hlen : l.length ≤ 3000000000000) (b : BK) (th v : Int) (hV : wordOf l 2 (slotZ b.sp d.n) 0 = v) (ho : overB v b.sp = false) (hl : laidB v b.sp = false) :
    Lifts Try.prog 58 #[.pointer (some ⟨x, 0, none⟩), .pointer (some ⟨p, 0, none⟩), .int .i64 th] (KB p x cells d l b) (KB p x cells d (l ++ [ldAcc th 2 (slotZ b.sp d.n) 0 v]) b) (.returned (.int .i64 1)) := by
  rintro w F hO
  have hR := KB.rd (Stp.refl hO)
  have c15 := hR.c15
  have fz := hR.fz
  have HD := Lib.hid (Stp.lift (bakHead_any p x cells d hd l hlen b th b.sp) (Stp.refl hO))
  rw [hV] at HD
  have HO2 := Lib.hid (fun w => over_any v b.sp w)
  have HL2 := Lib.hid (fun w => laid_any v b.sp w)
  rw [ho] at HO2
  rw [hl] at HL2
  clear hO hR hd ho hV hl
  go_enter Try.func58, Try.ntmps58
  go_wp2_with fail
  refine HD.out.mono ?_; rintro e w2 ⟨rfl, h⟩
  have H2 := Lib.hid h
  have hR := KB.rd h
  have c15 := hR.c15
  have fz := hR.fz
  clear h HD hR
  go_wp2_with fail
  refine (HO2.out _).mono ?_; rintro e w3 ⟨rfl, rfl⟩
  go_wp2_with fail
  refine (HL2.out _).mono ?_; rintro e w3 ⟨rfl, rfl⟩
  go_wp2_with fail
  go_ret
  exact ⟨rfl, H2.out⟩
theorem bakLooks_go (p x cells : Nat) (d : BD) (hd : BDOk d) (l : List Acc) (hlen : l.length ≤ 3000000000000) (b : BK) (hsp : 1 ≤ b.sp ∧ b.sp < d.st) (th v : Int) (hV : wordOf l 2 (slotZ b.sp d.n) 0 = v) (ho : overB v b.sp = false) (hl : laidB v b.sp = true) :
    Lifts Try.prog 58 #[.pointer (some ⟨x, 0, none⟩), .pointer (some ⟨p, 0, none⟩), .int .i64 th] (KB p x cells d l b) (KB p x cells d (l ++ [ldAcc th 2 (slotZ b.sp d.n) 0 v]) (wdgK d.n d.st d.s b 0)) (.returned (.int .i64 2)) := by
  rintro w F hO
  have hR := KB.rd (Stp.refl hO)
  have c15 := hR.c15
  have fz := hR.fz
  have HD := Lib.hid (Stp.lift (bakHead_any p x cells d hd l hlen b th b.sp) (Stp.refl hO))
  rw [hV] at HD
  have HO2 := Lib.hid (fun w => over_any v b.sp w)
  have HL2 := Lib.hid (fun w => laid_any v b.sp w)
  rw [ho] at HO2
  rw [hl] at HL2
  have HWD := Lib.hid (fun w1 (h : Stp w w1 F (KB p x cells d (l ++ [ldAcc th 2 (slotZ b.sp d.n) 0 v]) { b with word := -1 })) => Stp.lift (KB.of (p := p) (cells := cells) (l := l ++ [ldAcc th 2 (slotZ b.sp d.n) 0 v]) (bakWording_any x d { b with word := -1 } 0 (by omega) (by show (-1 : Int) + 1 = 0; omega) hd.n.2 hd.st hsp)) h)
  have HSET : Hid (∀ w1, Stp w w1 F (KB p x cells d (l ++ [ldAcc th 2 (slotZ b.sp d.n) 0 v]) b) → Stp w (w1.setCell ⟨x, 16, none⟩ (.int .i64 (-1))) F (KB p x cells d (l ++ [ldAcc th 2 (slotZ b.sp d.n) 0 v]) { b with word := -1 })) := fun w1 h => h.move (KB.mv (BlkH.set (cs := bakC x d b) 16 (.int .i64 (-1))))
  have HEQ : Hid (wdgK d.n d.st d.s { b with word := -1 } 0 = wdgK d.n d.st d.s b 0) := by
    show _ = _
    unfold wdgK
    rfl
  clear hO hR hd ho hV hl
  go_enter Try.func58, Try.ntmps58
  go_wp2_with fail
  refine HD.out.mono ?_; rintro e w2 ⟨rfl, h⟩
  have H2 := Lib.hid h
  have hR := KB.rd h
  have c15 := hR.c15
  have c16 := hR.c16
  have fz := hR.fz
  clear h HD hR
  go_wp2_with fail
  refine (HO2.out _).mono ?_; rintro e w3 ⟨rfl, rfl⟩
  go_wp2_with fail
  refine (HL2.out _).mono ?_; rintro e w3 ⟨rfl, rfl⟩
  go_wp2_with fail
  refine (HWD.out _ (HSET.out _ H2.out)).mono ?_; rintro e w3 ⟨rfl, h⟩
  go_wp2_with fail
  go_ret
  rw [HEQ.out] at h
  exact ⟨rfl, h⟩
theorem bakWaits_over (p x cells : Nat) (d : BD) (hd : BDOk d) (l : List Acc) (hlen : l.length ≤ 3000000000000) (b : BK) (th v : Int) (hV : wordOf l 2 (slotZ b.sp d.n) 0 = v) (ho : overB v b.sp = true) :
    Lifts Try.prog 73 #[.pointer (some ⟨x, 0, none⟩), .pointer (some ⟨p, 0, none⟩), .int .i64 th] (KB p x cells d l b) (KB p x cells d (l ++ [ldAcc th 2 (slotZ b.sp d.n) 0 v]) (ovrK d.st b)) (.returned (.int .i64 2)) := by
  rintro w F hO
  have GO := Lib.hid (KB.good p x cells d l b)
  have HD := Lib.hid (fun sp => Stp.lift (bakHead_any p x cells d hd l hlen b th sp) ((Stp.refl hO).drew GO.out))
  have hR := KB.rd (Stp.refl hO)
  have c15 := hR.c15
  have fz := hR.fz
  have HOV := Lib.hid (fun w1 (h : Stp w w1 F (KB p x cells d (l ++ [ldAcc th 2 (slotZ b.sp d.n) 0 v]) b)) => Stp.lift (KB.of (p := p) (cells := cells) (l := l ++ [ldAcc th 2 (slotZ b.sp d.n) 0 v]) (bakOver_any x d b hd.st)) h)
  have HO2 := Lib.hid (fun w => over_any v b.sp w)
  rw [ho] at HO2
  have HV := Lib.hid hV
  clear hO hR hd ho hV
  go_enter Try.func73, Try.ntmps73
  go_wp2_with fail
  go_region_law (first | (go_simp; go_at_call 64; refine (HD.out _).mono ?_; rintro e w2 ⟨rfl, h⟩; rw [HV.out] at h; have H2 := Lib.hid h; have hR2 := KB.rd h; have k15 := hR2.c15; have kz := hR2.fz; rw [HV.out]; clear h hR2) | (go_simp; go_at_call 63; refine (HO2.out _).mono ?_; rintro e w3 ⟨rfl, rfl⟩))
  all_goals
    go_wp2_with fail
    refine (HOV.out _ H2.out).mono ?_; rintro e w3 ⟨rfl, h⟩
    go_wp2_with fail
    go_ret
    exact ⟨rfl, h⟩
theorem bakWaits_wait (p x cells : Nat) (d : BD) (hd : BDOk d) (l : List Acc) (hlen : l.length ≤ 3000000000000) (b : BK) (th v : Int) (hV : wordOf l 2 (slotZ b.sp d.n) 0 = v) (ho : overB v b.sp = false) :
    Lifts Try.prog 73 #[.pointer (some ⟨x, 0, none⟩), .pointer (some ⟨p, 0, none⟩), .int .i64 th] (KB p x cells d l b) (KB p x cells d (l ++ [ldAcc th 2 (slotZ b.sp d.n) 0 v]) b) (.returned (.int .i64 1)) := by
  rintro w F hO
  have GO := Lib.hid (KB.good p x cells d l b)
  have HD := Lib.hid (fun sp => Stp.lift (bakHead_any p x cells d hd l hlen b th sp) ((Stp.refl hO).drew GO.out))
  have hR := KB.rd (Stp.refl hO)
  have c15 := hR.c15
  have fz := hR.fz
  have HO2 := Lib.hid (fun w => over_any v b.sp w)
  rw [ho] at HO2
  have HV := Lib.hid hV
  clear hO hR hd ho hV
  go_enter Try.func73, Try.ntmps73
  go_wp2_with fail
  go_region_law (first | (go_simp; go_at_call 64; refine (HD.out _).mono ?_; rintro e w2 ⟨rfl, h⟩; rw [HV.out] at h; have H2 := Lib.hid h; have hR2 := KB.rd h; have k15 := hR2.c15; have kz := hR2.fz; rw [HV.out]; clear h hR2) | (go_simp; go_at_call 63; refine (HO2.out _).mono ?_; rintro e w3 ⟨rfl, rfl⟩))
  all_goals
    go_wp2_with fail
    go_ret
    exact ⟨rfl, H2.out⟩
theorem bakOrders_over (p x cells : Nat) (d : BD) (hd : BDOk d) (l : List Acc) (hlen : l.length ≤ 3000000000000) (b : BK) (th v : Int) (hV : wordOf l 2 (slotZ (d.st - 1) d.n) 0 = v) (ho : overB v (d.st - 1) = true) :
    Lifts Try.prog 56 #[.pointer (some ⟨x, 0, none⟩), .pointer (some ⟨p, 0, none⟩), .int .i64 th] (KB p x cells d l b) (KB p x cells d (l ++ [ldAcc th 2 (slotZ (d.st - 1) d.n) 0 v]) (rdyK { b with known := true })) (.returned (.int .i64 2)) := by
  rintro w F hO
  obtain ⟨hs1, hs2⟩ := hd.st
  have GO := Lib.hid (KB.good p x cells d l b)
  have HD := Lib.hid (fun sp => Stp.lift (bakHead_any p x cells d hd l hlen b th sp) ((Stp.refl hO).drew GO.out))
  have hR := KB.rd (Stp.refl hO)
  have c2 := hR.c2
  have fz := hR.fz
  have HOV := Lib.hid (fun w1 (h : Stp w w1 F (KB p x cells d (l ++ [ldAcc th 2 (slotZ (d.st - 1) d.n) 0 v]) { b with known := true })) => Stp.lift (KB.of (p := p) (cells := cells) (l := l ++ [ldAcc th 2 (slotZ (d.st - 1) d.n) 0 v]) (bakReady_any x d { b with known := true })) h)
  have HSET : Hid (∀ w1, Stp w w1 F (KB p x cells d (l ++ [ldAcc th 2 (slotZ (d.st - 1) d.n) 0 v]) b) → Stp w (w1.setCell ⟨x, 17, none⟩ (.bool true)) F (KB p x cells d (l ++ [ldAcc th 2 (slotZ (d.st - 1) d.n) 0 v]) { b with known := true })) := fun w1 h => h.move (KB.mv (BlkH.set (cs := bakC x d b) 17 (.bool true)))
  have HO2 := Lib.hid (fun w => over_any v (d.st - 1) w)
  rw [ho] at HO2
  have HV := Lib.hid hV
  have HW : Hid (IntKind.i64.wrap (d.st - 1) = d.st - 1) := by
    show _ = _
    rw [IntKind.wrap_i64]; omega
  clear hO hR hd ho hV
  go_enter Try.func56, Try.ntmps56
  go_wp2_with fail
  go_region_law (first | (go_simp; go_at_call 64; (try rw [HW.out]); refine (HD.out _).mono ?_; rintro e w2 ⟨rfl, h⟩; rw [HV.out] at h; have H2 := Lib.hid h; have hR2 := KB.rd h; have k2 := hR2.c2; have k17 := hR2.c17; have kz := hR2.fz; rw [HV.out]; clear h hR2) | (go_simp; go_at_call 63; (try rw [HW.out]); refine (HO2.out _).mono ?_; rintro e w3 ⟨rfl, rfl⟩))
  all_goals
    go_wp2_with fail
    refine (HOV.out _ (HSET.out _ H2.out)).mono ?_; rintro e w3 ⟨rfl, h⟩
    go_wp2_with fail
    go_ret
    exact ⟨rfl, h⟩
theorem bakOrders_wait (p x cells : Nat) (d : BD) (hd : BDOk d) (l : List Acc) (hlen : l.length ≤ 3000000000000) (b : BK) (th v : Int) (hV : wordOf l 2 (slotZ (d.st - 1) d.n) 0 = v) (ho : overB v (d.st - 1) = false) :
    Lifts Try.prog 56 #[.pointer (some ⟨x, 0, none⟩), .pointer (some ⟨p, 0, none⟩), .int .i64 th] (KB p x cells d l b) (KB p x cells d (l ++ [ldAcc th 2 (slotZ (d.st - 1) d.n) 0 v]) b) (.returned (.int .i64 1)) := by
  rintro w F hO
  obtain ⟨hs1, hs2⟩ := hd.st
  have GO := Lib.hid (KB.good p x cells d l b)
  have HD := Lib.hid (fun sp => Stp.lift (bakHead_any p x cells d hd l hlen b th sp) ((Stp.refl hO).drew GO.out))
  have hR := KB.rd (Stp.refl hO)
  have c2 := hR.c2
  have fz := hR.fz
  have HO2 := Lib.hid (fun w => over_any v (d.st - 1) w)
  rw [ho] at HO2
  have HV := Lib.hid hV
  have HW : Hid (IntKind.i64.wrap (d.st - 1) = d.st - 1) := by
    show _ = _
    rw [IntKind.wrap_i64]; omega
  clear hO hR hd ho hV
  go_enter Try.func56, Try.ntmps56
  go_wp2_with fail
  go_region_law (first | (go_simp; go_at_call 64; (try rw [HW.out]); refine (HD.out _).mono ?_; rintro e w2 ⟨rfl, h⟩; rw [HV.out] at h; have H2 := Lib.hid h; have hR2 := KB.rd h; have k2 := hR2.c2; have kz := hR2.fz; rw [HV.out]; clear h hR2) | (go_simp; go_at_call 63; (try rw [HW.out]); refine (HO2.out _).mono ?_; rintro e w3 ⟨rfl, rfl⟩))
  all_goals
    go_wp2_with fail
    go_ret
    exact ⟨rfl, H2.out⟩
theorem bakEnds_any (p x cells : Nat) (d : BD) (hd : BDOk d) (l : List Acc) (hlen : l.length ≤ 3000000000000) (b : BK) (th : Int) :
    Lifts Try.prog 57 #[.pointer (some ⟨x, 0, none⟩), .pointer (some ⟨p, 0, none⟩), .int .i64 th] (KB p x cells d l b) (KB p x cells d (l ++ [stAcc th 2 (slotZ d.st d.n) 0 (headZ d.st true)]) { b with nx := 0 }) (.returned (.int .i64 3)) := by
  rintro w F hO
  have hR := KB.rd (Stp.refl hO)
  have c0 := hR.c0
  have c2 := hR.c2
  have fz := hR.fz
  have HSL := Lib.hid (fun w1 c0 fz => bakSlot_at w1 x d.n d.st c0 fz)
  have HH := Lib.hid (fun w => head_any d.st true w)
  have GO := Lib.hid (KB.good p x cells d l b)
  have HL := Lib.hid (fun w1 (h : Stp w w1 F (KB p x cells d l b)) => Stp.lift (KB.mem (x := x) (b := b) (store_in p d.n cells l hlen th 2 (slotZ d.st d.n) 0 (headZ d.st true) (.inr (.inl ⟨rfl, slotZ_lt d.st d.n (by have := hd.n; omega) (by have := hd.n; omega), rfl⟩)))) h)
  have HO := Lib.hid (Stp.refl hO)
  have HSET : Hid (∀ w1, Stp w w1 F (KB p x cells d (l ++ [stAcc th 2 (slotZ d.st d.n) 0 (headZ d.st true)]) b) → Stp w (w1.setCell ⟨x, 18, none⟩ .nilFunc) F (KB p x cells d (l ++ [stAcc th 2 (slotZ d.st d.n) 0 (headZ d.st true)]) { b with nx := 0 })) := fun w1 h => h.move (KB.mv (bak_put x d b 0))
  clear hO hR hd
  have c0d : w.drew.cell? ⟨x, 0, none⟩ = some (.int .i64 d.n) := by simpa using c0
  have fzd : ∀ o, w.drew.frozen? ⟨x, o, none⟩ = false := by simpa using fz
  go_enter Try.func57, Try.ntmps57
  go_wp2_with fail
  go_region_held3 (fun wx => wx.cell? ⟨x, 2, none⟩ = some (.int .i64 d.st)) (first | exact c2 | assumption) (first | (go_at_call 42; refine (HSL.out _ c0d fzd).mono ?_; rintro e w' ⟨rfl, rfl⟩) | (go_at_call 43; refine (HH.out _).mono ?_; rintro e w' ⟨rfl, rfl⟩) | (go_at_call 10; refine (HL.out _ (HO.out.drew GO.out)).mono ?_; rintro e w2 ⟨rfl, h2⟩; have H2 := Lib.hid h2; have k2 := (KB.rd h2).c2))
  have k18 := (KB.rd h2).c18
  have kz := (KB.rd h2).fz
  clear h2 c0 c2 fz c0d fzd HSL HH HL HO
  have hsn : ∀ (a : Addr) (w : World), (store a .nilFunc).run Try.prog w = stored Try.prog w a .nilFunc .plain := fun a w => run_store Try.prog w a _ _ rfl
  go_wp2_with fail
  go_ret
  exact ⟨rfl, HSET.out _ H2.out⟩
end Go.Proofs.Ytlmnljijpgpmiaa
