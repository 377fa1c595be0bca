/- The ring that grows: Value. -/
import Derived.Test.YtojkeahffabifaaCGb
import Derived.Test.YtojkeahffabifaaSGb
import Derived.Test.YtojkeahffabifaaCGr
import Derived.Test.YtojkeahffabifaaC8d
import Derived.Test.YtojkeahffabifaaC2h
import Derived.StillTailTactics
namespace Go.Proofs.Ytojkeahffabifaa
open Go.RowKit
set_option linter.unusedVariables false
end Go.Proofs.Ytojkeahffabifaa
namespace Go.Proofs.Ytojkeahffabifaa
open Go.RowKit
set_option linter.unusedVariables false
theorem Star.mapL {A A' B : HP} {w : World} {F : Nat → Prop} (h : Star A B w F) (k : ∀ F, A w F → A' w F) : Star A' B w F := by
  obtain ⟨FA, FB, ha, hb, hF, hd⟩ := h
  exact ⟨FA, FB, k FA ha, hb, hF, hd⟩
theorem lift_swap2 {P : Program} {f : FuncId} {args : Array Value} {M M' G C C' D D' : HP} {v : Ending} (gG : Good G) (h : Lifts P f args (Star (Star M C) D) (Star (Star M' C') D') v) : Lifts P f args (Star (Star (Star M G) C) D) (Star (Star (Star M' G) C') D') v := by
  intro w F hO
  refine ((h.left gG) w F ((hO.mapL fun _ h => h.swap).swap)).mono ?_
  rintro e w' ⟨rfl, hs⟩
  exact ⟨rfl, hs.imp fun _ h => (h.swap).mapL fun _ h => h.swap⟩
theorem looks_lifts {P : Program} {f : FuncId} {args : Array Value} {O : HP} {v : Ending} (g : Good O) (h : Looks P f args O v) : Lifts P f args O O v := fun w F hO => (h w F hO).mono fun e w' ⟨he, hb⟩ => ⟨he, Stp.calm g hO hb⟩
theorem stepK_kinds (n : Nat) (fr : Int) (rs : Nat → Int) (last : Bool) (s : CS) (v : Int) : ((stepK n fr rs last s v).2.1 = 1 ∧ (stepK n fr rs last s v).2.2 = 0) ∨ ((stepK n fr rs last s v).2.1 = 2 ∧ (stepK n fr rs last s v).2.2 = 0) ∨ ((stepK n fr rs last s v).2.1 = 3 ∧ (stepK n fr rs last s v).2.2 = 0) ∨ ((stepK n fr rs last s v).2.1 = 4 ∧ (stepK n fr rs last s v).2.2 = 3) ∨ ((stepK n fr rs last s v).2.1 = 4 ∧ (stepK n fr rs last s v).2.2 = 4) := by
  unfold stepK
  repeat' split
  all_goals simp
theorem SafeInv.rng {n : Nat} {fr : Int} {rs : Nat → Int} {g : GS} {s : CS} (h : SafeInv n fr rs g s) (h4 : s.st < 4) (hb : g.es.length ≤ 100000000) : KRng s := by
  obtain ⟨a, b, c, d, h⟩ := h
  rcases h with ⟨k1, k2⟩ | ⟨k1, k2, k3, k4, k5, kz, k6⟩ | ⟨k1, k2, k3, k4, k5, k6, kz, ⟨m, k7, k8, k9⟩, k10⟩ | ⟨k1, k2, k3, k4⟩ | ⟨k1, k2, k3⟩ | h
  · exact .inl (.inl k1)
  · exact .inr (.inl ⟨k1, by omega, by omega⟩)
  · exact .inr (.inr ⟨k1, ⟨by omega, by omega⟩, m, k8, k7⟩)
  · exact .inl (.inr k1)
  · omega
  · omega
theorem SafeInv.new {n : Nat} {rs : Nat → Int} {g : GS} {fr : Int} (h : fr = g.done) : SafeInv n fr rs g ⟨0, fr, 0, 0, 0⟩ := ⟨by omega, by omega, Int.le_refl _, by simp only; omega, .inl ⟨rfl, rfl⟩⟩
/-- A step of check over a ring that grows, beside whatever. -/
theorem safe_step {w0 wr : World} {p gp x n cells k : Nat} {l : List Acc} {g : GS} {fr : Int} {rs : Nat → Int} {st : CS} {B : HP} (gb : Good B) (hn1 : 1 ≤ n) (hn2 : n ≤ 16) (hrs : Wds rs) (h : AtW w0 (Star (Star (MG p gp n cells l g) (ChkH x n fr rs true st)) B) wr) (ho : RingOk n cells g l k) (hi : SafeInv n fr rs g st) (hk : k ≤ 10000000) :
    Calls Try.prog 52 #[.pointer (some ⟨x, 0, none⟩), .pointer (some ⟨p, 0, none⟩), .int .i64 1] wr fun e w' => ∃ kd er bo l' st', e = .returned (ansV kd er 0 bo) ∧ AtW w0 (Star (Star (MG p gp n cells l' g) (ChkH x n fr rs true st')) B) w' ∧ RingOk n cells g l' (k + 1) ∧ SafeInv n fr rs g st' ∧
      ((kd = 0 ∧ er = 0) ∨ (kd = 1 ∧ er = 0 ∧ g.done < g.es.length) ∨ (kd = 2 ∧ er = 0) ∨ (kd = 3 ∧ er = 0) ∨ (kd = 4 ∧ er = 3 ∧ sharesG g.es fr g.es.length rs) ∨ (kd = 4 ∧ er = 4 ∧ fr + n < g.es.length)) := by
  by_cases hst : 4 ≤ st.st
  · refine ((Looks.left (B := B) (look_swap (B := GrowH gp n g) (chkStep_none p x n cells l n fr rs true st 1 (.inr hst)))).at (((MG.good _ _ _ _ _ _).star (BlkH.good _ _ _)).star gb) h).mono ?_
    rintro e w' ⟨rfl, h⟩
    exact ⟨0, 0, false, l, st, rfl, h, ho.more, hi, .inl ⟨rfl, rfl⟩⟩
  · have h4 : st.st < 4 := by omega
    have hl := ho.len
    have hm := ho.many
    have hS := SafeInv.step ho.inv hn1 hn2 hrs hi h4 true rfl
    have hK := stepK_kinds n fr rs true st (wordOf l (addrK n st).1 (addrK n st).2.1 (addrK n st).2.2)
    obtain ⟨⟨a, b, c⟩, ha⟩ : ∃ t, addrK n st = t := ⟨_, rfl⟩
    obtain ⟨v, hv⟩ : ∃ v, wordOf l a b c = v := ⟨_, rfl⟩
    obtain ⟨⟨st', kd, er⟩, hs⟩ : ∃ t, stepK n fr rs true st v = t := ⟨_, rfl⟩
    have hvI : I64 v := hv ▸ ho.inv.okw a b c
    rw [ha] at hS hK
    simp only at hS hK
    rw [hv, hs] at hS hK
    simp only at hS hK
    obtain ⟨s1, s2, s3, s4⟩ := hS
    refine ((Lifts.left gb (lift_swap (GrowH.good gp n g) (chkStep_go p x n cells l (by omega) hn1 hn2 fr hi.1 rs hrs true st 1 (hi.rng h4 (by omega)) a b c ha v hv hvI st' kd er hs))).at h).mono ?_
    rintro e w' ⟨rfl, h⟩
    refine ⟨kd, er, true, _, st', rfl, h, ho.ld _ _ _ _ _, s1, ?_⟩
    rcases hK with ⟨rfl, rfl⟩ | ⟨rfl, rfl⟩ | ⟨rfl, rfl⟩ | ⟨rfl, rfl⟩ | ⟨rfl, rfl⟩
    · exact .inr (.inl ⟨rfl, rfl, s4 rfl⟩)
    · exact .inr (.inr (.inl ⟨rfl, rfl⟩))
    · exact .inr (.inr (.inr (.inl ⟨rfl, rfl⟩)))
    · exact .inr (.inr (.inr (.inr (.inl ⟨rfl, rfl, s2 rfl⟩))))
    · exact .inr (.inr (.inr (.inr (.inr ⟨rfl, rfl, s3 rfl⟩))))
/-- What is told where it is through. -/
theorem SafeInv.thr {n : Nat} {fr : Int} {rs : Nat → Int} {g : GS} {s : CS} (h : SafeInv n fr rs g s) (h4 : s.st = 4) : ¬ sharesG g.es fr s.seen rs ∧ fr ≤ s.start ∧ s.start ≤ g.done ∧ s.seen ≤ g.es.length := by
  obtain ⟨a, b, c, d, h⟩ := h
  rcases h with h | h | h | h | h | h
  · omega
  · omega
  · omega
  · omega
  · exact ⟨h.2.2, c, d, h.2.1⟩
  · omega
theorem ints_grid {w : World} {a : Option Addr} {len : Nat} {q : Nat → Nat → Int} (h : Grid w a len 1 q) : ∃ zs, IntsAt w a len zs := by
  refine ⟨(List.range len).map (fun i => q i 0), by simp, h.imp id ?_⟩
  rintro ⟨b, off, e, hb, hc⟩
  refine ⟨b, off, e, hb, fun i hi => ?_⟩
  have h := hc i hi 0 (by omega)
  rw [Nat.mul_one, Nat.add_zero] at h
  rw [h]
  congr 2
  simp [List.getD, hi]
end Go.Proofs.Ytojkeahffabifaa
