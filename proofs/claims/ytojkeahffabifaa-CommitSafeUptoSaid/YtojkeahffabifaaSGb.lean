/- Plain: the machines of begin and check over a ring that grows. -/
import Derived.Test.YtojkeahffabifaaSG
import Derived.Test.YtojkeahffabifaaS7
import Derived.Test.YtojkeahffabifaaS8
import Derived.Test.YtojkeahffabifaaS2b
import Derived.Test.YtojkeahffabifaaC2h
namespace Go.Proofs.Ytojkeahffabifaa
open Go.RowKit
set_option linter.unusedVariables false
/-- The youngest laid entry of a slot. -/
theorem GInv.top {laid size a : Nat} (hs : 1 ≤ size) (h1 : 1 ≤ a) (ha : a ≤ laid) : ∃ s : Nat, s % size = a % size ∧ a ≤ s ∧ s ≤ laid ∧ laid < s + size ∧ (s = a ∨ a + size ≤ s) := by
  have hlt := Nat.mod_lt (laid - a) hs
  have hle := Nat.mod_le (laid - a) size
  have hdm := Nat.div_add_mod (laid - a) size
  have hs2 : laid - (laid - a) % size = a + size * ((laid - a) / size) := by omega
  refine ⟨laid - (laid - a) % size, by rw [hs2, Nat.add_mul_mod_self_left], by omega, by omega, by omega, ?_⟩
  rcases Nat.eq_zero_or_pos ((laid - a) / size) with h0 | h0
  · rw [h0] at hs2; simp only [Nat.mul_zero] at hs2; omega
  · have := Nat.mul_le_mul_left size h0
    simp only [Nat.mul_one, Nat.succ_eq_add_one, Nat.zero_add] at this
    omega
/-- What a slot's head says. -/
theorem GInv.head {size cells : Nat} {g : GS} {l : List Acc} (h : GInv size cells g l) (hs : 1 ≤ size) {a : Nat} (h1 : 1 ≤ a) (h2 : a ≤ g.es.length) :
    ∃ s : Nat, wordOf l 2 ((a % size : Nat) : Int) 0 = 2 * s + (if s ≤ g.done then 1 else 0) ∧ (a ≤ g.laid → a ≤ s ∧ s ≤ g.laid ∧ (s = a ∨ a + size ≤ s)) ∧ (g.laid < a → s < a) := by
  have hd := h.dl
  have hl := h.ll
  have hc := h.cap
  by_cases ha : a ≤ g.laid
  · obtain ⟨s, k1, k2, k3, k4, k5⟩ := GInv.top hs h1 ha
    exact ⟨s, by rw [← k1]; exact h.head1 s (by omega) k3 k4, fun _ => ⟨k2, k3, k5⟩, fun _ => by omega⟩
  · by_cases hz : a ≤ size
    · exact ⟨0, by rw [h.head0 a (by omega) hz]; simp, fun h => absurd h ha, fun _ => by omega⟩
    · obtain ⟨s, k1, k2, k3, k4, k5⟩ := GInv.top (a := a - size) (laid := g.laid) hs (by omega) (by omega)
      refine ⟨s, ?_, fun h => absurd h ha, fun _ => by omega⟩
      have := h.head1 s (by omega) k3 k4
      rw [k1, ← Nat.mod_eq_sub_mod (by omega)] at this
      exact this
theorem GInv.over {size cells : Nat} {g : GS} {l : List Acc} (h : GInv size cells g l) (hs : 1 ≤ size) {a : Nat} (h1 : 1 ≤ a) (h2 : a ≤ g.es.length) : overB (wordOf l 2 ((a % size : Nat) : Int) 0) a = decide (a ≤ g.done) := by
  obtain ⟨s, k1, k2, k3⟩ := h.head hs h1 h2
  have hd := h.dl
  have hl := h.ll
  have hc := h.cap
  rw [k1, Bool.eq_iff_iff]
  unfold overB
  simp only [Bool.or_eq_true, Bool.and_eq_true, decide_eq_true_eq, beq_iff_eq]
  by_cases ha : a ≤ g.laid
  · obtain ⟨j1, j2, j3⟩ := k2 ha
    split <;> omega
  · have := k3 (by omega)
    split <;> omega
theorem slotZ_nat {a size : Nat} (hs : 1 ≤ size) (h16 : size ≤ 16) : slotZ (a : Int) size = ((a % size : Nat) : Int) := by
  unfold slotZ
  rw [if_pos (by omega)]
  omega
/-- begin's machine over a ring that grows. -/
def SeesInv (size : Nat) (g : GS) (least newest st seen sk : Int) : Prop :=
  (st = 0 ∧ seen = 0 ∧ sk = 0) ∨ (st = 1 ∧ seen = newest ∧ newest ≤ g.es.length ∧ 1 ≤ sk ∧ sk ≤ seen ∧ seen - size < sk ∧ least ≤ sk ∧ least ≤ g.done) ∨ (st = 2 ∧ seen = newest ∧ least ≤ sk ∧ sk ≤ g.done)
theorem SeesInv.mono {size : Nat} {g g' : GS} {least newest st seen sk : Int} (h : SeesInv size g least newest st seen sk) (h1 : g.es.length ≤ g'.es.length) (h2 : g.done ≤ g'.done) : SeesInv size g' least newest st seen sk := by
  rcases h with h | ⟨a, b, c, d⟩ | ⟨a, b, c, d⟩
  · exact .inl h
  · exact .inr (.inl ⟨a, b, by omega, d.1, d.2.1, d.2.2.1, d.2.2.2.1, by omega⟩)
  · exact .inr (.inr ⟨a, b, c, by omega⟩)
theorem SeesInv.step {size cells : Nat} {g : GS} {l : List Acc} (hg : GInv size cells g l) (hs : 1 ≤ size) (h16 : size ≤ 16) {least newest st seen sk : Int} (h : SeesInv size g least newest st seen sk) (h2 : st ≠ 2) (h0 : st = 0 → least = g.done ∧ newest = g.es.length) :
    SeesInv size g least newest (stepB size st seen sk (wordOf l (addrB size st sk).1 (addrB size st sk).2.1 (addrB size st sk).2.2)).1 (stepB size st seen sk (wordOf l (addrB size st sk).1 (addrB size st sk).2.1 (addrB size st sk).2.2)).2.1 (stepB size st seen sk (wordOf l (addrB size st sk).1 (addrB size st sk).2.1 (addrB size st sk).2.2)).2.2.1 ∧ (stepB size st seen sk (wordOf l (addrB size st sk).1 (addrB size st sk).2.1 (addrB size st sk).2.2)).1 ≠ 0 := by
  have hd := hg.dl
  have hl := hg.ll
  have hc := hg.cap
  rcases h with ⟨rfl, rfl, rfl⟩ | ⟨rfl, a, b, c, d, e, f, k⟩ | ⟨rfl, _⟩
  · obtain ⟨k1, k2⟩ := h0 rfl
    have hn : wordOf l (addrB size 0 0).1 (addrB size 0 0).2.1 (addrB size 0 0).2.2 = g.es.length := hg.newest
    rw [hn]
    unfold stepB
    rw [if_pos rfl]
    split
    · exact ⟨.inr (.inr ⟨rfl, by (try simp only); omega, by (try simp only); omega, by (try simp only); omega⟩), by simp⟩
    · exact ⟨.inr (.inl ⟨rfl, by (try simp only); omega, by (try simp only); omega, by (try simp only); omega, by (try simp only); omega, by (try simp only); omega, by (try simp only); omega, by omega⟩), by simp⟩
  · obtain ⟨a', rfl⟩ : ∃ m : Nat, sk = m := ⟨sk.toNat, by omega⟩
    have hn : wordOf l (addrB size 1 a').1 (addrB size 1 a').2.1 (addrB size 1 a').2.2 = wordOf l 2 ((a' % size : Nat) : Int) 0 := by
      show wordOf l 2 (slotZ (a' : Int) size) 0 = _
      rw [slotZ_nat hs h16]
    have ho := hg.over hs (a := a') (by omega) (by omega)
    rw [hn]
    unfold stepB
    rw [if_neg (by decide), ho]
    by_cases hdn : a' ≤ g.done
    · rw [if_pos (by simpa using hdn)]
      exact ⟨.inr (.inr ⟨rfl, a, f, by (try simp only); omega⟩), by simp⟩
    · rw [if_neg (by simpa using hdn)]
      split
      · exact ⟨.inr (.inr ⟨rfl, a, by (try simp only); omega, by (try simp only); omega⟩), by simp⟩
      · exact ⟨.inr (.inl ⟨rfl, a, b, by (try simp only); omega, by (try simp only); omega, by (try simp only); omega, by (try simp only); omega, k⟩), by simp⟩
  · exact absurd rfl h2
/-- Has one of the entries above a stamp, up to another one, a bit that a signature has? -/
def sharesG (es : List Ent) (fr to : Int) (rs : Nat → Int) : Prop := ∃ (i : Nat) (e : Ent), es[i]? = some e ∧ fr < (i : Int) + 1 ∧ (i : Int) + 1 ≤ to ∧ ∃ j : Nat, j < 8 ∧ bits .and .u64 (e.sg j) (rs j) ≠ 0
/-- A stamp's entry has no bit of those words, or the ring has run over. -/
def clearG (size : Nat) (fr : Int) (es : List Ent) (rs : Nat → Int) (k : Int) (n : Nat) : Prop := fr + size < es.length ∨ ∀ e : Ent, es[(k - 1).toNat]? = some e → ∀ j : Nat, j < n → bits .and .u64 (e.sg j) (rs j) = 0
theorem clearG.mono {size : Nat} {fr : Int} {es es' : List Ent} {rs : Nat → Int} {k : Int} {n : Nat} (h : clearG size fr es rs k n) (hx : Ext es es') (hk : (k - 1).toNat < es.length) : clearG size fr es' rs k n := by
  have hl := hx.1
  rcases h with h | h
  · exact .inl (by omega)
  · refine .inr fun e he j hj => ?_
    obtain ⟨e', k1, k2, k3⟩ := hx.2 _ _ (List.getElem?_eq_getElem hk)
    rw [k1] at he
    obtain rfl := Option.some.inj he
    rw [k3]
    exact h _ (List.getElem?_eq_getElem hk) j hj
theorem sharesG.mono {es es' : List Ent} {fr to : Int} {rs : Nat → Int} (hx : Ext es es') (h : sharesG es' fr to rs) (ht : to ≤ es.length) : sharesG es fr to rs := by
  obtain ⟨i, e, h1, h2, h3, j, h4, h5⟩ := h
  have hi : i < es.length := by omega
  obtain ⟨e', k1, k2, k3⟩ := hx.2 _ _ (List.getElem?_eq_getElem hi)
  rw [k1] at h1
  obtain rfl := Option.some.inj h1
  exact ⟨i, _, List.getElem?_eq_getElem hi, h2, h3, j, h4, by rw [← k3]; exact h5⟩
/-- check's machine over a ring that grows. -/
def SafeInv (size : Nat) (fr : Int) (rs : Nat → Int) (g : GS) (s : CS) : Prop :=
  0 ≤ fr ∧ fr ≤ g.done ∧ fr ≤ s.start ∧ s.start ≤ g.done ∧
  ((s.st = 0 ∧ s.start = fr) ∨
   (s.st = 1 ∧ fr < s.sk ∧ s.sk ≤ s.seen ∧ s.seen ≤ g.es.length ∧ s.seen ≤ fr + size ∧ zeroS rs = false ∧ ∀ k : Int, fr < k → k < s.sk → clearG size fr g.es rs k 8) ∨
   (s.st = 2 ∧ fr < s.sk ∧ s.sk ≤ s.seen ∧ s.seen ≤ g.es.length ∧ s.seen ≤ fr + size ∧ s.sk ≤ g.laid ∧ zeroS rs = false ∧ (∃ m : Nat, s.word = m ∧ m < 8 ∧ clearG size fr g.es rs s.sk m) ∧ ∀ k : Int, fr < k → k < s.sk → clearG size fr g.es rs k 8) ∨
   (s.st = 3 ∧ s.seen ≤ g.es.length ∧ s.seen ≤ fr + size ∧ ∀ k : Int, fr < k → k ≤ s.seen → clearG size fr g.es rs k 8) ∨
   (s.st = 4 ∧ s.seen ≤ g.es.length ∧ ¬ sharesG g.es fr s.seen rs) ∨ s.st = 5)
theorem SafeInv.mono {size : Nat} {fr : Int} {rs : Nat → Int} {g g' : GS} {s : CS} (h : SafeInv size fr rs g s) (hx : Ext g.es g'.es) (h2 : g.done ≤ g'.done) (h3 : g.laid ≤ g'.laid) : SafeInv size fr rs g' s := by
  have hl := hx.1
  obtain ⟨a, b, c, d, h⟩ := h
  refine ⟨a, by omega, c, by omega, ?_⟩
  rcases h with h | ⟨k1, k2, k3, k4, k5, kz, k6⟩ | ⟨k1, k2, k3, k4, k5, k6, kz, ⟨m, k7, k8, k9⟩, k10⟩ | ⟨k1, k2, k3, k4⟩ | ⟨k1, k2, k3⟩ | h
  · exact .inl h
  · exact .inr (.inl ⟨k1, k2, k3, by omega, k5, kz, fun k q1 q2 => (k6 k q1 q2).mono hx (by omega)⟩)
  · exact .inr (.inr (.inl ⟨k1, k2, k3, by omega, k5, by omega, kz, ⟨m, k7, k8, k9.mono hx (by omega)⟩, fun k q1 q2 => (k10 k q1 q2).mono hx (by omega)⟩))
  · exact .inr (.inr (.inr (.inl ⟨k1, by omega, k3, fun k q1 q2 => (k4 k q1 q2).mono hx (by omega)⟩)))
  · exact .inr (.inr (.inr (.inr (.inl ⟨k1, by omega, fun q => k3 (q.mono hx k2)⟩))))
  · exact .inr (.inr (.inr (.inr (.inr h))))
theorem zero_all {rs : Nat → Int} (h : zeroS rs = true) : ∀ j, j < 8 → rs j = 0 := by
  have key : ∀ k j, k ≤ j → j < 8 → nextW rs k = 8 → rs j = 0 := by
    intro k j h1 h2 h3
    obtain ⟨n, hn⟩ : ∃ n, n = j - k := ⟨_, rfl⟩
    induction n generalizing k with
    | zero =>
      obtain rfl : k = j := by omega
      by_cases hz : rs k = 0
      · exact hz
      · rw [nextW_here h2 hz] at h3; omega
    | succ n ih =>
      by_cases hz : rs k = 0
      · rw [nextW_zero (by omega) hz] at h3
        exact ih (k + 1) (by omega) h3 (by omega)
      · rw [nextW_here (by omega) hz] at h3; omega
  intro j hj
  exact key 0 j (by omega) hj (by unfold zeroS at h; simpa using h)
theorem nextW_between {rs : Nat → Int} : ∀ (k j : Nat), k ≤ j → j < nextW rs k → j < 8 → rs j = 0 := by
  intro k j h1 h2 h3
  obtain ⟨n, hn⟩ : ∃ n, n = j - k := ⟨_, rfl⟩
  induction n generalizing k with
  | zero =>
    obtain rfl : k = j := by omega
    by_cases hz : rs k = 0
    · exact hz
    · rw [nextW_here h3 hz] at h2; omega
  | succ n ih =>
    by_cases hz : rs k = 0
    · rw [nextW_zero (by omega) hz] at h2
      exact ih (k + 1) (by omega) h2 (by omega)
    · rw [nextW_here (by omega) hz] at h2; omega
theorem andZ (x : Int) (hx : 0 ≤ x ∧ x < 18446744073709551616) : bits .and .u64 x 0 = 0 := by
  rw [and_nat _ _ hx (by omega)]; simp
/-- What a step tells. -/
theorem SafeInv.step {size cells : Nat} {g : GS} {l : List Acc} (hg : GInv size cells g l) (hs : 1 ≤ size) (h16 : size ≤ 16) {fr : Int} {rs : Nat → Int} (hr : Wds rs) {s : CS} (h : SafeInv size fr rs g s) (h4 : s.st < 4) (last : Bool) (hlast : last = true) :
    SafeInv size fr rs g (stepK size fr rs last s (wordOf l (addrK size s).1 (addrK size s).2.1 (addrK size s).2.2)).1 ∧
    ((stepK size fr rs last s (wordOf l (addrK size s).1 (addrK size s).2.1 (addrK size s).2.2)).2.2 = 3 → sharesG g.es fr g.es.length rs) ∧
    ((stepK size fr rs last s (wordOf l (addrK size s).1 (addrK size s).2.1 (addrK size s).2.2)).2.2 = 4 → fr + size < g.es.length) ∧
    ((stepK size fr rs last s (wordOf l (addrK size s).1 (addrK size s).2.1 (addrK size s).2.2)).2.1 = 1 → g.done < g.es.length) := by
  have hd := hg.dl
  have hl := hg.ll
  have hc := hg.cap
  obtain ⟨a, b, c, d, h⟩ := h
  rcases h with ⟨k1, k2⟩ | ⟨k1, k2, k3, k4, k5, kz, k6⟩ | ⟨k1, k2, k3, k4, k5, k6, kz, ⟨m, k7, k8, k9⟩, k10⟩ | ⟨k1, k2, k3, k4⟩ | ⟨k1, k2, k3⟩ | h
  · have hn : wordOf l (addrK size s).1 (addrK size s).2.1 (addrK size s).2.2 = g.es.length := by unfold addrK; rw [if_pos (.inl k1)]; exact hg.newest
    rw [hn]
    unfold stepK
    rw [if_pos k1]
    split
    · rename_i hz
      refine ⟨⟨a, b, c, d, .inr (.inr (.inr (.inr (.inl ⟨rfl, by (try simp only); omega, ?_⟩))))⟩, by simp, by simp, by simp⟩
      rintro ⟨i, e, q1, q2, q3, j, q4, q5⟩
      rcases hz with hz | hz
      · rw [zero_all hz j q4] at q5
        exact q5 (andZ _ ((hg.ent i e q1).1 ▸ sigW_wds _ j))
      · simp only at q3; omega
    · rename_i hz
      have hz1 : zeroS rs = false := by
        cases hzz : zeroS rs
        · rfl
        · exact absurd (.inl hzz) hz
      have hz2 : ¬ (g.es.length : Int) ≤ fr := fun q => hz (.inr q)
      split
      · rename_i hf
        unfold farB at hf
        simp at hf
        exact ⟨⟨a, b, c, d, .inr (.inr (.inr (.inr (.inr rfl))))⟩, by simp, fun _ => by omega, by simp⟩
      · rename_i hf
        unfold farB at hf
        simp at hf
        exact ⟨⟨a, b, c, d, .inr (.inl ⟨rfl, by (try simp only); omega, by (try simp only); omega, by (try simp only); omega, by (try simp only); omega, hz1, fun k q1 q2 => by simp only at q2; omega⟩)⟩, by simp, by simp, by simp⟩
  · obtain ⟨a', ha'⟩ : ∃ m : Nat, s.sk = m := ⟨s.sk.toNat, by omega⟩
    have hn : wordOf l (addrK size s).1 (addrK size s).2.1 (addrK size s).2.2 = wordOf l 2 ((a' % size : Nat) : Int) 0 := by
      unfold addrK
      rw [if_neg (by omega), if_pos k1, ha']
      show wordOf l 2 (slotZ (a' : Int) size) 0 = _
      rw [slotZ_nat hs h16]
    obtain ⟨t, q1, q2, q3⟩ := hg.head hs (a := a') (by omega) (by omega)
    rw [hn, q1]
    unfold stepK
    rw [if_neg (by omega), if_pos k1]
    have hdiv : (2 * (t : Int) + (if t ≤ g.done then 1 else 0)) / 2 = t := by split <;> omega
    rw [hdiv]
    split
    · refine ⟨⟨a, b, c, d, .inr (.inl ⟨k1, k2, k3, k4, k5, kz, k6⟩)⟩, by simp, by simp, fun _ => ?_⟩
      by_cases hal : a' ≤ g.laid
      · obtain ⟨j1, j2, j3⟩ := q2 hal; omega
      · omega
    · rename_i hge
      have hal : a' ≤ g.laid := by
        by_cases hal : a' ≤ g.laid
        · exact hal
        · have := q3 (by omega); omega
      obtain ⟨j1, j2, j3⟩ := q2 hal
      split
      · exact ⟨⟨a, b, c, d, .inr (.inr (.inr (.inr (.inr rfl))))⟩, by simp, fun _ => by omega, by simp⟩
      · have hta : t = a' := by omega
        subst hta
        have hst : s.start ≤ (if (2 * (t : Int) + (if t ≤ g.done then 1 else 0)) % 2 = 1 ∧ s.start = s.sk - 1 then s.sk else s.start) ∧ (if (2 * (t : Int) + (if t ≤ g.done then 1 else 0)) % 2 = 1 ∧ s.start = s.sk - 1 then s.sk else s.start) ≤ g.done := by
          by_cases hdn : t ≤ g.done
          · rw [if_pos hdn]; split <;> omega
          · rw [if_neg hdn]; split <;> omega
        generalize (if (2 * (t : Int) + (if t ≤ g.done then 1 else 0)) % 2 = 1 ∧ s.start = s.sk - 1 then s.sk else s.start) = ns at *
        refine ⟨⟨a, b, by (try simp only); omega, by (try simp only); omega, .inr (.inr (.inl ⟨rfl, k2, k3, k4, k5, by (try simp only); omega, kz, ⟨nextW rs 0, rfl, zero_lt kz, .inr fun e he j hj => ?_⟩, k6⟩))⟩, by simp, by simp, by simp⟩
        rw [nextW_between (rs := rs) 0 j (by omega) hj (by have := zero_lt kz; omega)]
        exact andZ _ ((hg.ent _ e he).1 ▸ sigW_wds _ j)
  · obtain ⟨a', ha'⟩ : ∃ m : Nat, s.sk = m := ⟨s.sk.toNat, by omega⟩
    have hn : wordOf l (addrK size s).1 (addrK size s).2.1 (addrK size s).2.2 = wordOf l 3 ((a' % size : Nat) : Int) m := by
      unfold addrK
      rw [if_neg (by omega), if_neg (by omega), ha', k7]
      show wordOf l 3 (slotZ (a' : Int) size) m = _
      rw [slotZ_nat hs h16]
    obtain ⟨t, q1, q2, q3, q4, q5⟩ := GInv.top (a := a') (laid := g.laid) hs (by omega) (by omega)
    obtain ⟨i, rfl⟩ : ∃ i, t = i + 1 := ⟨t - 1, by omega⟩
    have hi : i < g.es.length := by omega
    have hgi := List.getElem?_eq_getElem hi
    have hwd := hg.sig1 i _ (by omega) (by omega) hgi m k8
    rw [q1] at hwd
    have hwds : Wds (g.es[i]).sg := by rw [(hg.ent i _ hgi).1]; exact sigW_wds _
    have hwr := hwds m
    have hwrap : IntKind.u64.wrap (wrap64 ((g.es[i]).sg m)) = (g.es[i]).sg m := by
      rw [u64_wrap]
      unfold wrap64
      omega
    have hmn : s.word.toNat = m := by omega
    rw [hn, hwd]
    unfold stepK
    rw [if_neg (by omega), if_neg (by omega), if_pos k1, hwrap, hmn]
    split
    · rename_i hne
      exact ⟨⟨a, b, c, d, .inr (.inr (.inr (.inr (.inr rfl))))⟩, fun _ => ⟨i, _, hgi, by omega, by omega, m, k8, hne⟩, by simp, by simp⟩
    · rename_i heq
      have heq : bits .and .u64 ((g.es[i]).sg m) (rs m) = 0 := by
        by_cases hq : bits .and .u64 ((g.es[i]).sg m) (rs m) = 0
        · exact hq
        · exact absurd hq heq
      have hcl : ∀ n, n ≤ nextW rs (m + 1) → n ≤ 8 → clearG size fr g.es rs s.sk n := by
        intro n hn1 hn2
        by_cases hfar : fr + size < g.es.length
        · exact .inl hfar
        · rcases k9 with k9 | k9
          · exact .inl k9
          · refine .inr fun e he j hj => ?_
            have hia : i + 1 = a' := by omega
            have hie : (s.sk - 1).toNat = i := by omega
            by_cases hjm : j < m
            · exact k9 e he j hjm
            · by_cases hje : j = m
              · subst hje
                rw [hie, hgi] at he
                obtain rfl := Option.some.inj he
                exact heq
              · rw [nextW_between (rs := rs) (m + 1) j (by omega) (by omega) (by omega)]
                exact andZ _ ((hg.ent _ e he).1 ▸ sigW_wds _ j)
      split
      · rename_i hlt
        exact ⟨⟨a, b, c, d, .inr (.inr (.inl ⟨k1, k2, k3, k4, k5, k6, kz, ⟨_, rfl, hlt, hcl _ (Nat.le_refl _) (by omega)⟩, k10⟩))⟩, by simp, by simp, by simp⟩
      · rename_i hge
        have hall : ∀ k : Int, fr < k → k ≤ s.sk → clearG size fr g.es rs k 8 := by
          intro k p1 p2
          by_cases hk : k = s.sk
          · rw [hk]; exact hcl 8 (by omega) (Nat.le_refl _)
          · exact k10 k p1 (by omega)
        split
        · exact ⟨⟨a, b, c, d, .inr (.inl ⟨rfl, by (try simp only); omega, by (try simp only); omega, k4, k5, kz, fun k p1 p2 => hall k p1 (by simp only at p2; omega)⟩)⟩, by simp, by simp, by simp⟩
        · skip
          exact ⟨⟨a, b, c, d, .inr (.inr (.inr (.inl ⟨rfl, k4, k5, fun k p1 p2 => hall k p1 (by simp only at p2; omega)⟩)))⟩, by simp, by simp, by simp⟩
  · have hn : wordOf l (addrK size s).1 (addrK size s).2.1 (addrK size s).2.2 = g.es.length := by unfold addrK; rw [if_pos (.inr k1)]; exact hg.newest
    rw [hn]
    unfold stepK
    rw [if_neg (by omega), if_neg (by omega), if_neg (by omega)]
    split
    · rename_i hf
      unfold farB at hf
      simp at hf
      exact ⟨⟨a, b, c, d, .inr (.inr (.inr (.inr (.inr rfl))))⟩, by simp, fun _ => by omega, by simp⟩
    · rename_i hf
      unfold farB at hf
      simp at hf
      refine ⟨⟨a, b, c, d, .inr (.inr (.inr (.inr (.inl ⟨rfl, k2, ?_⟩))))⟩, by simp, by simp, by simp⟩
      rintro ⟨i, e, q1, q2, q3, j, q4, q5⟩
      rcases k4 (i + 1) q2 q3 with q | q
      · omega
      · exact q5 (q e (by rw [show ((i : Int) + 1 - 1).toNat = i by omega]; exact q1) j q4)
  · omega
  · omega
end Go.Proofs.Ytojkeahffabifaa
namespace Go.Proofs.Ytojkeahffabifaa
open Go.RowKit
set_option linter.unusedVariables false
theorem valW_no {ws : List (Int × Int)} {c v : Int} (h : ∀ r ∈ ws, r.1 ≠ c) : valW ws c v = v := by
  unfold valW
  induction ws generalizing v with
  | nil => rfl
  | cons a r ih =>
    rw [List.foldl_cons, if_neg (h a (by simp))]
    exact ih fun x hx => h x (by simp [hx])
/-- No entry from fr up to m writes c. -/
def NoW (es : List Ent) (fr m : Nat) (c : Int) : Prop := ∀ (i : Nat) (e : Ent), es[i]? = some e → fr ≤ i → i < m → ∀ r ∈ e.ws, r.1 ≠ c
theorem valN_no {es : List Ent} {fr c : Int} {a : Nat} : ∀ (m : Nat), a ≤ m → NoW es a m c → valN es m c = valN es a c
  | 0, h, _ => by rw [show a = 0 by omega]
  | m + 1, h, hn => by
    by_cases he : a = m + 1
    · rw [he]
    · rw [← valN_no (fr := fr) m (by omega) fun i e h1 h2 h3 => hn i e h1 h2 (by omega)]
      unfold valN
      by_cases hm : m < es.length
      · rw [List.take_succ_eq_append_getElem hm, List.foldl_append]
        exact valW_no (hn m _ (List.getElem?_eq_getElem hm) (by omega) (by omega))
      · rw [List.take_of_length_le (by omega), List.take_of_length_le (by omega)]
theorem cellV_no {es : List Ent} {a d : Nat} {c : Int} (h : a ≤ d) (hd : d ≤ es.length) (hn : NoW es a es.length c) : cellV es d c = valN es a c := by
  have h1 : valN es d c = valN es a c := valN_no (fr := c) d h fun i e q1 q2 q3 => hn i e q1 q2 (by omega)
  unfold cellV
  split
  · exact h1
  · rename_i e he
    rw [valW_no, h1]
    intro r hr
    exact hn d e he h (List.getElem?_eq_some_iff.1 he).1 r (List.mem_of_mem_take hr)
theorem valN_ext {es es' : List Ent} (hx : Ext es es') (c : Int) : ∀ (a : Nat), a ≤ es.length → valN es' a c = valN es a c
  | 0, _ => by simp [valN]
  | a + 1, h => by
    have ha : a < es.length := by omega
    obtain ⟨e', k1, k2, k3⟩ := hx.2 a _ (List.getElem?_eq_getElem ha)
    have ha' := (List.getElem?_eq_some_iff.1 k1).1
    have ih := valN_ext hx c a (by omega)
    unfold valN at ih ⊢
    rw [List.take_succ_eq_append_getElem ha, List.take_succ_eq_append_getElem ha', List.foldl_append, List.foldl_append, ih, (List.getElem?_eq_some_iff.1 k1).2]
    simp only [List.foldl_cons, List.foldl_nil, k2]
theorem NoW.ext {es es' : List Ent} {a m : Nat} {c : Int} (hx : Ext es es') (hm : m ≤ es.length) (h : NoW es' a m c) : NoW es a m c := by
  intro i e h1 h2 h3
  obtain ⟨e', k1, k2, k3⟩ := hx.2 i e h1
  rw [← k2]
  exact h i e' k1 h2 h3
theorem hasS_sigW {ws : List (Int × Int)} {r : Int × Int} (h : r ∈ ws) : bitB (sigW ws) (hashN r.1) = true := by
  have key : ∀ (ws : List (Int × Int)) (s : Nat → Int), (bitB s (hashN r.1) = true ∨ r ∈ ws) → bitB (ws.foldl (fun s r => withS s r.1) s) (hashN r.1) = true := by
    intro ws
    induction ws with
    | nil => intro s h; rcases h with h | h
             · exact h
             · simp at h
    | cons a t ih =>
      intro s h
      rw [List.foldl_cons]
      apply ih
      rcases h with h | h
      · left; unfold withS; rw [bitB_putB, h]; rfl
      · rcases List.mem_cons.1 h with h | h
        · left; subst h; unfold withS; rw [bitB_putB]; simp
        · exact .inr h
  exact key ws noS (.inr h)
/-- Who shares no bit writes none of the cells. -/
theorem noW_of {size cells : Nat} {g : GS} {l : List Acc} (hg : GInv size cells g l) {fr m : Nat} {rs : Nat → Int} (hr : Wds rs) {c : Int} (hc : bitB rs (hashN c) = true) (h : ¬ sharesG g.es fr m rs) : NoW g.es fr m c := by
  intro i e h1 h2 h3 r hrm hrc
  apply h
  refine ⟨i, e, h1, by omega, by omega, hashN c / 64, by have := hashN_lt c; omega, ?_⟩
  have hw : Wds e.sg := by rw [(hg.ent i e h1).1]; exact sigW_wds _
  have hb : bitB (andS e.sg rs) (hashN c) = true := by
    rw [bitB_andS hw hr, hc, (hg.ent i e h1).1, ← hrc, hasS_sigW hrm]; rfl
  intro h0
  unfold bitB andS at hb
  rw [h0] at hb
  simp at hb
/-- The value that was loaded, beside the ring. -/
def FVal (g : GS) (fr : Nat) (c : Int) (rd : Bool) (v : Int) (s : CS) : Prop := rd = true → ∃ m : Nat, fr ≤ m ∧ m ≤ g.es.length ∧ (s.st = 0 ∨ s.st = 5 ∨ (m : Int) ≤ s.seen) ∧ (NoW g.es fr m c → v = valN g.es fr c)
theorem FVal.mono {g g' : GS} {fr : Nat} {c : Int} {rd : Bool} {v : Int} {s : CS} (h : FVal g fr c rd v s) (hx : Ext g.es g'.es) (hf : fr ≤ g.es.length) : FVal g' fr c rd v s := by
  intro hr
  obtain ⟨m, h0, h1, h2, h3⟩ := h hr
  have := hx.1
  exact ⟨m, h0, by omega, h2, fun hn => by rw [valN_ext hx c fr hf]; exact h3 (hn.ext hx h1)⟩
theorem FVal.load {size cells : Nat} {g : GS} {l : List Acc} (hg : GInv size cells g l) {fr : Nat} (hf : fr ≤ g.done) (c : Int) (s : CS) (hs : s.st = 0) : FVal g fr c true (wordOf l 4 c 0) s := by
  intro _
  have := hg.dl
  have := hg.ll
  exact ⟨g.es.length, by omega, Nat.le_refl _, .inl hs, fun hn => by rw [hg.cell]; exact cellV_no hf (by omega) hn⟩
theorem FVal.step {size cells : Nat} {g : GS} {l : List Acc} (hg : GInv size cells g l) {fr : Nat} {f : Int} {rs : Nat → Int} {c : Int} {rd : Bool} {v : Int} {s : CS} (h : FVal g fr c rd v s) (h4 : s.st < 4) (h0 : 0 ≤ s.st) (last : Bool) :
    FVal g fr c rd v (stepK size f rs last s (wordOf l (addrK size s).1 (addrK size s).2.1 (addrK size s).2.2)).1 := by
  intro hr
  obtain ⟨m, hfm, h1, h2, h3⟩ := h hr
  refine ⟨m, hfm, h1, ?_, h3⟩
  by_cases hz : s.st = 0
  · have hn : wordOf l (addrK size s).1 (addrK size s).2.1 (addrK size s).2.2 = g.es.length := by unfold addrK; rw [if_pos (.inl hz)]; exact hg.newest
    rw [hn]
    unfold stepK
    rw [if_pos hz]
    split
    · right; right; simp only; omega
    · split
      · right; right; simp only; omega
      · right; right; simp only; omega
  · have hm : (m : Int) ≤ s.seen := by
      rcases h2 with h | h | h
      · exact absurd h hz
      · omega
      · exact h
    unfold stepK
    rw [if_neg hz]
    split
    · split
      · exact .inr (.inr hm)
      · split
        · exact .inr (.inl rfl)
        · exact .inr (.inr hm)
    · split
      · split
        · exact .inr (.inl rfl)
        · split
          · exact .inr (.inr hm)
          · split
            · exact .inr (.inr hm)
            · split
              · exact .inr (.inr hm)
              · exact .inr (.inr hm)
      · split
        · exact .inr (.inl rfl)
        · exact .inr (.inr hm)
/-- What is told, where the check is through. -/
theorem FVal.tells {size cells : Nat} {g : GS} {l : List Acc} (hg : GInv size cells g l) {fr : Nat} {rs : Nat → Int} (hr : Wds rs) {c old : Int} (hc : bitB rs (hashN c) = true) (ho : bitB rs (hashN old) = true) {v : Int} {s : CS} (h : FVal g fr c true v s) (hi : SafeInv size fr rs g s) (h4 : s.st = 4) :
    (fr : Int) ≤ s.seen ∧ v = valN g.es s.seen.toNat c ∧ valN g.es s.seen.toNat old = valN g.es fr old := by
  obtain ⟨a, b, c', d, hx⟩ := hi
  have hns : ¬ sharesG g.es fr s.seen rs := by
    rcases hx with h | h | h | h | h | h
    · omega
    · omega
    · omega
    · omega
    · exact h.2.2
    · omega
  obtain ⟨m, m0, m1, m2, m3⟩ := h rfl
  have hm : (m : Int) ≤ s.seen := by
    rcases m2 with h | h | h
    · omega
    · omega
    · exact h
  have hns2 : ¬ sharesG g.es fr s.seen.toNat rs := by rw [Int.toNat_of_nonneg (by omega)]; exact hns
  have hno : ∀ c : Int, bitB rs (hashN c) = true → NoW g.es fr s.seen.toNat c := fun c hc => noW_of hg hr hc hns2
  refine ⟨by omega, ?_, valN_no (fr := old) _ (by omega) (hno old ho)⟩
  rw [valN_no (fr := c) _ (by omega) (hno c hc)]
  exact m3 fun i e h1 h2 h3 => hno c hc i e h1 h2 (by omega)
end Go.Proofs.Ytojkeahffabifaa
namespace Go.Proofs.Ytojkeahffabifaa
open Go.RowKit
set_option linter.unusedVariables false
theorem SafeInv.ends {size cells : Nat} {g : GS} {l : List Acc} (hg : GInv size cells g l) (hs : 1 ≤ size) (h16 : size ≤ 16) {fr : Int} {rs : Nat → Int} {s : CS} (h : SafeInv size fr rs g s) (h4 : s.st < 4) (hlaid : g.laid = g.es.length) (hseen : s.st = 0 ∨ s.seen = g.es.length) :
    (stepK size fr rs true s (wordOf l (addrK size s).1 (addrK size s).2.1 (addrK size s).2.2)).1.seen = g.es.length ∧
    (stepK size fr rs true s (wordOf l (addrK size s).1 (addrK size s).2.1 (addrK size s).2.2)).2.1 ≠ 1 ∧
    ((stepK size fr rs true s (wordOf l (addrK size s).1 (addrK size s).2.1 (addrK size s).2.2)).2.2 = 3 → (g.es.length : Int) ≤ fr + size) ∧
    ((stepK size fr rs true s (wordOf l (addrK size s).1 (addrK size s).2.1 (addrK size s).2.2)).2.1 = 2 → (stepK size fr rs true s (wordOf l (addrK size s).1 (addrK size s).2.1 (addrK size s).2.2)).1.st < 4) ∧
    ((stepK size fr rs true s (wordOf l (addrK size s).1 (addrK size s).2.1 (addrK size s).2.2)).2.1 = 3 → (stepK size fr rs true s (wordOf l (addrK size s).1 (addrK size s).2.1 (addrK size s).2.2)).1.st = 4) := by
  have hl := hg.ll
  obtain ⟨a, b, c, d, h⟩ := h
  rcases h with ⟨k1, k2⟩ | ⟨k1, k2, k3, k4, k5, kz, k6⟩ | ⟨k1, k2, k3, k4, k5, k6, kz, ⟨m, k7, k8, k9⟩, k10⟩ | ⟨k1, k2, k3, k4⟩ | ⟨k1, k2, k3⟩ | h
  · have hn : wordOf l (addrK size s).1 (addrK size s).2.1 (addrK size s).2.2 = g.es.length := by unfold addrK; rw [if_pos (.inl k1)]; exact hg.newest
    rw [hn]
    unfold stepK
    rw [if_pos k1]
    split
    · exact ⟨rfl, by simp, by simp, by simp, by simp⟩
    · split
      · exact ⟨rfl, by simp, by simp, by simp, by simp⟩
      · exact ⟨rfl, by simp, by simp, by simp, by simp⟩
  · have hse : s.seen = g.es.length := by omega
    obtain ⟨a', ha'⟩ : ∃ m : Nat, s.sk = m := ⟨s.sk.toNat, by omega⟩
    have hn : wordOf l (addrK size s).1 (addrK size s).2.1 (addrK size s).2.2 = wordOf l 2 ((a' % size : Nat) : Int) 0 := by
      unfold addrK
      rw [if_neg (by omega), if_pos k1, ha']
      show wordOf l 2 (slotZ (a' : Int) size) 0 = _
      rw [slotZ_nat hs h16]
    obtain ⟨t, q1, q2, q3⟩ := hg.head hs (a := a') (by omega) (by omega)
    obtain ⟨j1, j2, j3⟩ := q2 (by omega)
    rw [hn, q1]
    unfold stepK
    rw [if_neg (by omega), if_pos k1]
    have hdiv : (2 * (t : Int) + (if t ≤ g.done then 1 else 0)) / 2 = t := by split <;> omega
    rw [hdiv, if_neg (by omega), if_neg (by omega)]
    exact ⟨hse, by simp, by simp, by simp, by simp⟩
  · have hse : s.seen = g.es.length := by omega
    generalize wordOf l (addrK size s).1 (addrK size s).2.1 (addrK size s).2.2 = v
    unfold stepK
    rw [if_neg (by omega), if_neg (by omega), if_pos k1]
    split
    · exact ⟨hse, by simp, fun _ => by omega, by simp, by simp⟩
    · split
      · exact ⟨hse, by simp, by simp, fun _ => by simp only; omega, by simp⟩
      · split
        · exact ⟨hse, by simp, by simp, by simp, by simp⟩
        · exact ⟨hse, by simp, by simp, by simp, by simp⟩
  · have hse : s.seen = g.es.length := by omega
    generalize wordOf l (addrK size s).1 (addrK size s).2.1 (addrK size s).2.2 = v
    unfold stepK
    rw [if_neg (by omega), if_neg (by omega), if_neg (by omega)]
    split
    · exact ⟨hse, by simp, by simp, by simp, by simp⟩
    · exact ⟨hse, by simp, by simp, by simp, by simp⟩
  · omega
  · omega
theorem WInv.lt {size : Nat} {fr : Int} {rs : Nat → Int} {s : CS} {n : Nat} (h : WInv size fr rs s n) (h4 : s.st < 4) (h1 : 1 ≤ size) : n ≤ 1 + 9 * size := by
  rcases h with ⟨h0, rfl⟩ | ⟨hz, h0, ⟨h1, h2, h3, hse⟩, hn⟩ | ⟨hz, h0, ⟨h1, h2, h3, hse⟩, m, hm, hw, hn⟩ | ⟨h0, hn⟩ | ⟨h0, hn⟩
  · omega
  · omega
  · omega
  · omega
  · omega
end Go.Proofs.Ytojkeahffabifaa
