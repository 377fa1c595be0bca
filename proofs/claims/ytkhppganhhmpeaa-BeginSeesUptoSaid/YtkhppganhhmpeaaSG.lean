/- Plain: a ring that grows. -/
import Derived.Test.YtkhppganhhmpeaaS3b
import Derived.Test.YtkhppganhhmpeaaS2
namespace Go.Proofs.Ytkhppganhhmpeaa
open Go.RowKit
/-- An entry: its writes, its signature, how many are written back. -/
structure Ent where
  ws : List (Int × Int)
  sg : Nat → Int
  bk : Nat
/-- A ring. -/
structure GS where
  es : List Ent
  laid : Nat
  done : Nat
/-- The signature of the cells that are written. -/
noncomputable def sigW (ws : List (Int × Int)) : Nat → Int := ws.foldl (fun s r => withS s r.1) noS
/-- The writes that fit. -/
def fitZ (cells : Int) (q : Nat → Nat → Int) (n : Nat) : List (Int × Int) := (List.range n).map fun i => (q i 0 % cells, q i 1)
/-- The stores of an entry's signature, the words below j. -/
def sigSt (k : Int) (sg : Nat → Int) (j : Nat) : List Acc := (List.range j).map fun (i : Nat) => stAcc (-1) 3 k i (wrap64 (sg i))
/-- The first entry that isn't laid is. -/
def layG (size : Nat) (g : GS) (l : List Acc) : GS × List Acc :=
  match g.es[g.laid]? with
  | none => (g, l)
  | some e => (⟨g.es, g.laid + 1, g.done⟩, l ++ sigSt (((g.laid + 1) % size : Nat) : Int) e.sg 8 ++ [stAcc (-1) 2 (((g.laid + 1) % size : Nat) : Int) 0 (2 * ((g.laid + 1 : Nat) : Int))])
/-- A cell is written back. -/
def backG (g : GS) (l : List Acc) : GS × List Acc :=
  if g.done < g.laid then
    match g.es[g.done]? with
    | none => (g, l)
    | some e => match e.ws[e.bk]? with
      | none => (g, l)
      | some r => (⟨g.es.set g.done ⟨e.ws, e.sg, e.bk + 1⟩, g.laid, g.done⟩, l ++ [stAcc (-1) 4 r.1 0 r.2])
  else (g, l)
/-- An entry gets complete. -/
def endG (size : Nat) (g : GS) (l : List Acc) : GS × List Acc :=
  if g.done < g.laid then
    match g.es[g.done]? with
    | none => (g, l)
    | some e => if e.bk = e.ws.length then (⟨g.es, g.laid, g.done + 1⟩, l ++ [stAcc (-1) 2 (((g.done + 1) % size : Nat) : Int) 0 (2 * ((g.done + 1 : Nat) : Int) + 1)]) else (g, l)
  else (g, l)
/-- An entry is published. -/
noncomputable def pubG (size cells : Nat) (g : GS) (l : List Acc) (ws : List (Int × Int)) : GS × List Acc :=
  if (g.es.length : Int) - g.done < size ∧ 0 < cells then (⟨g.es ++ [⟨ws, sigW ws, 0⟩], g.laid, g.done⟩, l ++ [stAcc (-1) 1 0 0 ((g.es.length + 1 : Nat) : Int)]) else (g, l)
/-- All that can be done of the first one that isn't complete. -/
def allG (size : Nat) (g : GS) (l : List Acc) : GS × List Acc :=
  let a := if g.done = g.laid then layG size g l else (g, l)
  if a.1.done < a.1.laid then
    let b := backG a.1 a.2
    let c := backG b.1 b.2
    let d := backG c.1 c.2
    let e := backG d.1 d.2
    endG size e.1 e.2
  else a
noncomputable def actG (size cells : Nat) (g : GS) (l : List Acc) (kind : Int) (ws : List (Int × Int)) : GS × List Acc :=
  if kind % 5 = 0 then pubG size cells g l ws else if kind % 5 = 1 then layG size g l else if kind % 5 = 2 then backG g l else if kind % 5 = 3 then endG size g l else allG size g l
end Go.Proofs.Ytkhppganhhmpeaa
