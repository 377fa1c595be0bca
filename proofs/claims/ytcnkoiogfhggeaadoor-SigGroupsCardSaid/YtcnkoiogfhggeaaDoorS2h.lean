/- Plain: the groups of like things, by their places. -/
import Derived.Test.YtcnkoiogfhggeaaDoorProg
import Derived.WalkKit
namespace Go.Proofs.YtcnkoiogfhggeaaDoor
/-- The place i joins the first group whose first member is like it, else a new group. -/
def putG (same : Nat → Nat → Bool) (i : Nat) : List (List Nat) → List (List Nat)
  | [] => [[i]]
  | g :: r => if same (g.headD 0) i then (g ++ [i]) :: r else g :: putG same i r
def groupsG (same : Nat → Nat → Bool) : Nat → List (List Nat)
  | 0 => []
  | n + 1 => putG same n (groupsG same n)
theorem putG_hit (same : Nat → Nat → Bool) (i : Nat) : ∀ (gs : List (List Nat)) (k : Nat) (g : List Nat), gs[k]? = some g → same (g.headD 0) i = true → (∀ j h, j < k → gs[j]? = some h → same (h.headD 0) i = false) → putG same i gs = gs.set k (g ++ [i])
  | [], k, g, h, _, _ => by simp at h
  | x :: r, 0, g, h, hs, _ => by
    simp at h; subst h
    unfold putG; rw [if_pos hs]; rfl
  | x :: r, k + 1, g, h, hs, ho => by
    have hx : same (x.headD 0) i = false := ho 0 x (by omega) rfl
    have ih := putG_hit same i r k g (by simpa using h) hs (fun j y hj hy => ho (j + 1) y (by omega) (by simpa using hy))
    unfold putG; rw [if_neg (by rw [hx]; decide), ih]; rfl
theorem putG_miss (same : Nat → Nat → Bool) (i : Nat) : ∀ (gs : List (List Nat)), (∀ g ∈ gs, same (g.headD 0) i = false) → putG same i gs = gs ++ [[i]]
  | [], _ => rfl
  | x :: r, ho => by
    have hx := ho x (List.mem_cons_self ..)
    have ih := putG_miss same i r (fun g hg => ho g (List.mem_cons_of_mem _ hg))
    unfold putG; rw [if_neg (by rw [hx]; decide), ih]; rfl
/-- No group is empty. -/
theorem groupsG_ne (same : Nat → Nat → Bool) : ∀ n, ∀ g ∈ groupsG same n, g ≠ []
  | 0, g, h => by simp [groupsG] at h
  | n + 1, g, h => by
    have key : ∀ (gs : List (List Nat)), (∀ g ∈ gs, g ≠ []) → ∀ g ∈ putG same n gs, g ≠ [] := by
      intro gs
      induction gs with
      | nil => intro _ g hg; simp [putG] at hg; simp [hg]
      | cons x r ih =>
        intro ho g hg
        unfold putG at hg
        split at hg
        · rcases List.mem_cons.1 hg with e | e
          · subst e; simp
          · exact ho g (List.mem_cons_of_mem _ e)
        · rcases List.mem_cons.1 hg with e | e
          · exact ho g (by rw [e]; exact List.mem_cons_self ..)
          · exact ih (fun y hy => ho y (List.mem_cons_of_mem _ hy)) g e
    exact key _ (groupsG_ne same n) g h
theorem putG_len (same : Nat → Nat → Bool) (i : Nat) : ∀ (gs : List (List Nat)), (putG same i gs).length ≤ gs.length + 1
  | [] => by simp [putG]
  | x :: r => by
    have ih := putG_len same i r
    unfold putG; split
    · simp
    · simp; omega
theorem groupsG_len (same : Nat → Nat → Bool) : ∀ n, (groupsG same n).length ≤ n
  | 0 => by simp [groupsG]
  | n + 1 => Nat.le_trans (putG_len same n _) (Nat.succ_le_succ (groupsG_len same n))
theorem putG_each (same : Nat → Nat → Bool) (i m : Nat) : ∀ (gs : List (List Nat)), (∀ g ∈ gs, g.length ≤ m) → ∀ g ∈ putG same i gs, g.length ≤ m + 1
  | [], _, g, hg => by simp [putG] at hg; subst hg; simp
  | x :: r, h, g, hg => by
    unfold putG at hg
    split at hg
    · rcases List.mem_cons.1 hg with e | e
      · subst e; have := h x (List.mem_cons_self ..); simp; omega
      · have := h g (List.mem_cons_of_mem _ e); omega
    · rcases List.mem_cons.1 hg with e | e
      · subst e; have := h g (List.mem_cons_self ..); omega
      · exact putG_each same i m r (fun y hy => h y (List.mem_cons_of_mem _ hy)) g e
theorem groupsG_each (same : Nat → Nat → Bool) : ∀ n, ∀ g ∈ groupsG same n, g.length ≤ n
  | 0, g, h => by simp [groupsG] at h
  | n + 1, g, h => putG_each same n n _ (groupsG_each same n) g h
theorem putG_lt (same : Nat → Nat → Bool) (i : Nat) : ∀ (gs : List (List Nat)), (∀ g ∈ gs, ∀ x ∈ g, x < i) → ∀ g ∈ putG same i gs, ∀ x ∈ g, x < i + 1
  | [], _, g, hg, x, hx => by simp [putG] at hg; subst hg; simp at hx; omega
  | y :: r, h, g, hg, x, hx => by
    unfold putG at hg
    split at hg
    · rcases List.mem_cons.1 hg with e | e
      · subst e
        rcases List.mem_append.1 hx with hx | hx
        · have := h y (List.mem_cons_self ..) x hx; omega
        · simp at hx; omega
      · have := h g (List.mem_cons_of_mem _ e) x hx; omega
    · rcases List.mem_cons.1 hg with e | e
      · subst e; have := h g (List.mem_cons_self ..) x hx; omega
      · exact putG_lt same i r (fun z hz => h z (List.mem_cons_of_mem _ hz)) g e x hx
theorem groupsG_lt (same : Nat → Nat → Bool) : ∀ n, ∀ g ∈ groupsG same n, ∀ x ∈ g, x < n
  | 0, g, h => by simp [groupsG] at h
  | n + 1, g, h => putG_lt same n _ (groupsG_lt same n) g h
theorem head_mem {g : List Nat} (h : g ≠ []) : g.headD 0 ∈ g := by
  cases g with
  | nil => exact absurd rfl h
  | cons a r => exact List.mem_cons_self ..
end Go.Proofs.YtcnkoiogfhggeaaDoor
