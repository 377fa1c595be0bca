/- The ring that grows: Shares. -/
import Derived.Test.YtkhppganhhmpeaaCGb
import Derived.Test.YtkhppganhhmpeaaSGb
import Derived.Test.YtkhppganhhmpeaaC2l
namespace Go.Proofs.Ytkhppganhhmpeaa
open Go.RowKit
set_option linter.unusedVariables false
theorem ent_lits {w : World} {p : Nat} {v : Value} {e : Ent} {T : TypeId} (h : w.heap[p]? = some (.cells (entCell (v, e)).toArray T)) :
    w.cell? ⟨p, 0, none⟩ = some v ∧ w.cell? ⟨p, 1, none⟩ = some (.int .u64 (e.sg 0)) ∧ w.cell? ⟨p, 2, none⟩ = some (.int .u64 (e.sg 1)) ∧ w.cell? ⟨p, 3, none⟩ = some (.int .u64 (e.sg 2)) ∧ w.cell? ⟨p, 4, none⟩ = some (.int .u64 (e.sg 3)) ∧ w.cell? ⟨p, 5, none⟩ = some (.int .u64 (e.sg 4)) ∧ w.cell? ⟨p, 6, none⟩ = some (.int .u64 (e.sg 5)) ∧ w.cell? ⟨p, 7, none⟩ = some (.int .u64 (e.sg 6)) ∧ w.cell? ⟨p, 8, none⟩ = some (.int .u64 (e.sg 7)) ∧ w.cell? ⟨p, 9, none⟩ = some (.int .i64 e.bk) ∧ ∀ o, w.frozen? ⟨p, o, none⟩ = false := by
  refine ⟨?_, ?_, ?_, ?_, ?_, ?_, ?_, ?_, ?_, ?_, fun o => by simp [World.frozen?, h]⟩ <;> simp [World.cell?, h, entCell]
end Go.Proofs.Ytkhppganhhmpeaa
