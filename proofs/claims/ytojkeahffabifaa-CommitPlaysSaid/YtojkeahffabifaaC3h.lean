/- Layer 3: New, of both. -/
import Derived.Test.YtojkeahffabifaaC3d
import Derived.Test.YtojkeahffabifaaC3g
import Derived.Deep.OwnRows
namespace Go.Proofs.Ytojkeahffabifaa
open Go.RowKit
set_option linter.unusedVariables false
theorem rtakes_any (c r : Int) (w : World) : Calls Try.prog 17 #[.int .i64 c, .int .i64 r] w fun e w' => e = .returned (.bool (decide ((1 ≤ c ∧ c ≤ 1024) ∧ 1 ≤ r ∧ r ≤ 16))) ∧ w = w' := by
  by_cases h1 : 1 ≤ c
  · by_cases h2 : c ≤ 1024
    · by_cases h3 : 1 ≤ r
      · by_cases h4 : r ≤ 16
        · go_enter Try.func17, Try.ntmps17
          go_wp2
          go_ret
          exact ⟨by congr 2; simp [h1, h2, h3, h4], rfl⟩
        · go_enter Try.func17, Try.ntmps17
          go_wp2
          go_ret
          exact ⟨by congr 2; simp; omega, rfl⟩
      · go_enter Try.func17, Try.ntmps17
        go_wp2
        go_ret
        exact ⟨by congr 2; simp; omega, rfl⟩
    · go_enter Try.func17, Try.ntmps17
      go_wp2
      go_ret
      exact ⟨by congr 2; simp; omega, rfl⟩
  · go_enter Try.func17, Try.ntmps17
    go_wp2
    go_ret
    exact ⟨by congr 2; simp; omega, rfl⟩
/-- The reference's New has answered. -/
def RMemNew (w : World) (cells ring : Nat) (e : Ending) (w' : World) : Prop := ∃ r, e = .returned (.pointer (some ⟨r, 0, none⟩)) ∧ AtW w (RMemH r ring cells []) w'
theorem rmemNew_any (cells ring : Nat) (w : World) : Calls Try.prog 18 #[.int .i64 cells, .int .i64 ring] w (RMemNew w cells ring) := by
  go_enter Try.func18, Try.ntmps18
  go_wp2_with fail
  go_ret
  refine ⟨w.heap.size, rfl, fun b => b = w.heap.size, ⟨.slice none 0 0, heapAlloc _ _, World.ownsRow_nil _ _ _ _, by simp [Value.ownBlock], fun b => by simp [Value.ownBlock]⟩, (Below.refl _ _).alloc (Nat.le_refl _) _, fun b h => by omega⟩
theorem memNew_bad (c r : Int) (h : ¬ ((1 ≤ c ∧ c ≤ 1024) ∧ 1 ≤ r ∧ r ≤ 16)) (w : World) : Calls Try.prog 8 #[.int .i64 c, .int .i64 r] w fun e w' => e = .returned (.tuple #[.pointer none, .int .i64 1]) ∧ w = w' := by
  by_cases h1 : 1 ≤ c
  · by_cases h2 : c ≤ 1024
    · by_cases h3 : 1 ≤ r
      · have h4 : ¬ r ≤ 16 := fun h4 => h ⟨⟨h1, h2⟩, h3, h4⟩
        clear h
        go_enter Try.func8, Try.ntmps8
        go_wp2_with fail
        go_ret2
        exact ⟨rfl, rfl⟩
      · clear h
        go_enter Try.func8, Try.ntmps8
        go_wp2_with fail
        go_ret2
        exact ⟨rfl, rfl⟩
    · clear h
      go_enter Try.func8, Try.ntmps8
      go_wp2_with fail
      go_ret2
      exact ⟨rfl, rfl⟩
  · clear h
    go_enter Try.func8, Try.ntmps8
    go_wp2_with fail
    go_ret2
    exact ⟨rfl, rfl⟩
theorem infoI64 : (Try.prog.info? 2).map (fun i => (i.zero, i.size, i.bytes)) = some (some (.int .i64 0), 1, 8) := by kernel_rfl
theorem infoRow8 : (Try.prog.info? 132).map (fun i => (i.zero, i.size, i.bytes)) = some (some (.agg #[.int .i64 0, .int .i64 0, .int .i64 0, .int .i64 0, .int .i64 0, .int .i64 0, .int .i64 0, .int .i64 0]), 8, 64) := by kernel_rfl
/-- What is made: n zero cells. -/
def zeroCells (n : Nat) : Array Value := (List.replicate n (Value.int .i64 0)).toArray
theorem wd_zero (n : Nat) : (List.replicate n (Value.int .i64 0)) = cellsV (fun _ _ _ => 0) n := by
  apply List.ext_getElem
  · simp [cellsV]
  · intro i h1 h2; simp [cellsV]
theorem wd_zero8 (n : Nat) : (List.replicate (n * 8) (Value.int .i64 0)) = sigsV (fun _ _ _ => 0) n := by
  apply List.ext_getElem
  · simp [sigsV]
  · intro i h1 h2; simp [sigsV]
theorem wd_zeroH (n : Nat) : (List.replicate n (Value.int .i64 0)) = headsV (fun _ _ _ => 0) n := by
  apply List.ext_getElem
  · simp [headsV]
  · intro i h1 h2; simp [headsV]
theorem makeI (n : Nat) (hn : n ≤ 1024) : ∃ cs : Array Value, Hid (cs = zeroCells n) ∧ ∀ w : World, (Instr.makeSlice 86 (.int .i64 n) (.int .i64 n)).run Try.prog w = .ok (.slice (some ⟨w.heap.size, 0, none⟩) n n) (w.alloc (.cells cs 2)) := by
  refine ⟨_, ?_, fun w => run_make_row' 86 2 (.int .i64 0) 8 Try.underlying86 infoI64 rfl .i64 .i64 n (by omega) (by omega) w⟩
  show _ = _
  unfold zeroCells
  apply Array.ext'
  rw [toList_madeCells_one]
theorem madeCells8 (n : Nat) : (madeCells #[Value.int .i64 0, .int .i64 0, .int .i64 0, .int .i64 0, .int .i64 0, .int .i64 0, .int .i64 0, .int .i64 0] (n * 8)) = zeroCells (n * 8) := by
  apply Array.ext
  · simp [madeCells, zeroCells]
  · intro i h1 h2
    have : i % 8 = 0 ∨ i % 8 = 1 ∨ i % 8 = 2 ∨ i % 8 = 3 ∨ i % 8 = 4 ∨ i % 8 = 5 ∨ i % 8 = 6 ∨ i % 8 = 7 := by omega
    simp only [madeCells, zeroCells, Array.getElem_map, Array.getElem_range, List.getElem_toArray, List.getElem_replicate]
    show (_ : Array Value)[i % 8]! = _
    rcases this with h | h | h | h | h | h | h | h <;> rw [h] <;> rfl
theorem makeS (n : Nat) (hn : n ≤ 1024) : ∃ cs : Array Value, Hid (cs = zeroCells (n * 8)) ∧ ∀ w : World, (Instr.makeSlice 87 (.int .i64 n) (.int .i64 n)).run Try.prog w = .ok (.slice (some ⟨w.heap.size, 0, none⟩) n n) (w.alloc (.cells cs 132)) := by
  obtain ⟨i0, hi, hI0, hI1, hI2⟩ := info_parts infoRow8
  refine ⟨_, (madeCells8 n), fun w => ?_⟩
  have h := run_make (P := Try.prog) w 87 132 i0 _ Try.underlying87 hi hI0 .i64 .i64 n n (by omega) (Int.le_refl _) (by rw [hI2]; omega) (by omega)
  rw [hI1] at h
  simp only [Int.toNat_natCast] at h
  exact h
/-- The heads up to k are 1. -/
def headsUp (k : Nat) : Int → Int → Int → Int := fun a i _ => if a = 2 ∧ i < k then 1 else 0
theorem memW_congr {w : World} {p ring cells : Nat} {wd wd' : Int → Int → Int → Int} {hv sv cv lv : Value} (h : MemW w p ring cells wd hv sv cv lv) (h1 : wd' 1 0 0 = wd 1 0 0) (h2 : ∀ i : Nat, i < ring → wd' 2 i 0 = wd 2 i 0) (h3 : ∀ i j : Nat, i < ring → j < 8 → wd' 3 i j = wd 3 i j) (h4 : ∀ i : Nat, i < cells → wd' 4 i 0 = wd 4 i 0) : MemW w p ring cells wd' hv sv cv lv := by
  obtain ⟨a, b, c, d⟩ := h
  refine ⟨by rw [h1]; exact a, ?_, ?_, ?_⟩
  · rwa [show headsV wd' ring = headsV wd ring from range_map_same _ _ _ fun m hm => by rw [h2 m hm]]
  · rwa [show sigsV wd' ring = sigsV wd ring from range_map_same _ _ _ fun m hm => by rw [h3 (m / 8) (m % 8) (by omega) (by omega)]]
  · rwa [show cellsV wd' cells = cellsV wd cells from range_map_same _ _ _ fun m hm => by rw [h4 m hm]]
/-- The program's New has answered. -/
def MemNew (w : World) (cells ring : Nat) (e : Ending) (w' : World) : Prop := ∃ p, e = .returned (.tuple #[.pointer (some ⟨p, 0, none⟩), .int .i64 0]) ∧ AtW w (MemH p ring cells []) w'
theorem own_made {w : World} {b n : Nat} {e : TypeId} {size : Nat} (hn : n ≤ 1024) (h : w.heap[b]? = some (.cells (zeroCells (n * size)) e)) : w.ownsRow 0 e size (.slice (some ⟨b, 0, none⟩) n n) n (List.replicate (n * size) (.int .i64 0)) :=
  ⟨by simp, .inr ⟨b, n, zeroCells (n * size), rfl, Nat.zero_le _, h, Nat.le_refl _, by unfold maxLen; omega, by simp [zeroCells], by simp [zeroCells]⟩⟩
/-- Behind the making of the three lists and of the struct. -/
theorem mem_made {w1 : World} {p ring cells bh bs bc : Nat} {n1 : ring ≤ 1024} {n2 : cells ≤ 1024} (hp : w1.heap[p]? = some (.cells #[.int .i64 0, .slice (some ⟨bh, 0, none⟩) ring ring, .slice (some ⟨bs, 0, none⟩) ring ring, .slice (some ⟨bc, 0, none⟩) cells cells, .slice none 0 0] 89))
    (hh : w1.heap[bh]? = some (.cells (zeroCells ring) 2)) (hs : w1.heap[bs]? = some (.cells (zeroCells (ring * 8)) 132)) (hc : w1.heap[bc]? = some (.cells (zeroCells cells) 2))
    (d1 : bh ≠ p) (d2 : bs ≠ p) (d3 : bc ≠ p) (d4 : bh ≠ bs) (d5 : bh ≠ bc) (d6 : bs ≠ bc) :
    MemW w1 p ring cells (headsUp 0) (.slice (some ⟨bh, 0, none⟩) ring ring) (.slice (some ⟨bs, 0, none⟩) ring ring) (.slice (some ⟨bc, 0, none⟩) cells cells) (.slice none 0 0) ∧ Apart5 p (.slice (some ⟨bh, 0, none⟩) ring ring) (.slice (some ⟨bs, 0, none⟩) ring ring) (.slice (some ⟨bc, 0, none⟩) cells cells) (.slice none 0 0) := by
  have e : headsUp 0 = fun a i j => if a = 2 ∧ i < 0 then 1 else 0 := rfl
  have z : MemW w1 p ring cells (fun _ _ _ => 0) (.slice (some ⟨bh, 0, none⟩) ring ring) (.slice (some ⟨bs, 0, none⟩) ring ring) (.slice (some ⟨bc, 0, none⟩) cells cells) (.slice none 0 0) := by
    refine ⟨hp, ?_, ?_, ?_⟩
    · rw [← wd_zeroH]
      have h := own_made (size := 1) n1 (by rw [Nat.mul_one]; exact hh)
      rwa [Nat.mul_one] at h
    · rw [← wd_zero8]
      exact own_made n1 hs
    · rw [← wd_zero]
      have h := own_made (size := 1) n2 (by rw [Nat.mul_one]; exact hc)
      rwa [Nat.mul_one] at h
  refine ⟨memW_congr z rfl (fun i hi => ?_) (fun i j hi hj => rfl) (fun i hi => rfl), ?_⟩
  · unfold headsUp; rw [if_neg (by omega)]
  · constructor <;> simp [Value.ownBlock] <;> first | omega | (intro b h; omega) | trivial
theorem heap4 {w w1 : World} {a b c d : Obj} (hE : w1.heap = (((w.heap.push a).push b).push c).push d) : w1.heap[w.heap.size]? = some a ∧ w1.heap[w.heap.size + 1]? = some b ∧ w1.heap[w.heap.size + 1 + 1]? = some c ∧ w1.heap[w.heap.size + 1 + 1 + 1]? = some d := by
  rw [hE]
  refine ⟨?_, ?_, ?_, ?_⟩
  · rw [Array.getElem?_push, Array.getElem?_push, Array.getElem?_push, Array.getElem?_push, if_neg (by simp; omega), if_neg (by simp; omega), if_neg (by simp), if_pos rfl]
  · rw [Array.getElem?_push, Array.getElem?_push, Array.getElem?_push, if_neg (by simp), if_neg (by simp), if_pos (by simp)]
  · rw [Array.getElem?_push, Array.getElem?_push, if_neg (by simp), if_pos (by simp)]
  · rw [Array.getElem?_push, if_pos (by simp)]
theorem heap4_below {w w1 : World} {a b c d : Obj} (hE : w1.heap = (((w.heap.push a).push b).push c).push d) (h1 : w1.os = w.os) (h2 : w1.tape = w.tape) (h3 : w1.output = w.output) : Below w.heap.size w w1 :=
  ⟨h1, h2, h3, by rw [hE]; simp; omega, fun k hk => by rw [hE]; simp [Array.getElem?_push]; (repeat' rw [if_neg (by omega)])⟩
/-- The loop's invariant. -/
def MadeUp (w : World) (cells ring k : Nat) (wr : World) : Prop := ∃ hv sv cv, MemW wr (w.heap.size + 1 + 1 + 1) ring cells (headsUp k) hv sv cv (.slice none 0 0) ∧ Apart5 (w.heap.size + 1 + 1 + 1) hv sv cv (.slice none 0 0) ∧ Below w.heap.size w wr ∧ ∀ b, WBlk (w.heap.size + 1 + 1 + 1) hv sv cv b → w.heap.size ≤ b
theorem mem_start {w w1 : World} {ring cells bh bs bc : Nat} {a b c : Obj} {ch cs cc : Array Value} (n1 : ring ≤ 1024) (n2 : cells ≤ 1024) (hE : w1.heap = (((w.heap.push a).push b).push c).push (.cells #[.int .i64 0, .slice (some ⟨bh, 0, none⟩) ring ring, .slice (some ⟨bs, 0, none⟩) ring ring, .slice (some ⟨bc, 0, none⟩) cells cells, .slice none 0 0] 89))
    (e1 : w1.os = w.os) (e2 : w1.tape = w.tape) (e3 : w1.output = w.output) (hch : ch = zeroCells ring) (hcs : cs = zeroCells (ring * 8)) (hcc : cc = zeroCells cells) (hp : (bh = w.heap.size ∧ bs = w.heap.size + 1 ∧ bc = w.heap.size + 1 + 1 ∧ a = .cells ch 2 ∧ b = .cells cs 132 ∧ c = .cells cc 2) ∨ (bh = w.heap.size ∧ bs = w.heap.size + 1 + 1 ∧ bc = w.heap.size + 1 ∧ a = .cells ch 2 ∧ b = .cells cc 2 ∧ c = .cells cs 132) ∨ (bh = w.heap.size + 1 ∧ bs = w.heap.size ∧ bc = w.heap.size + 1 + 1 ∧ a = .cells cs 132 ∧ b = .cells ch 2 ∧ c = .cells cc 2) ∨ (bh = w.heap.size + 1 + 1 ∧ bs = w.heap.size ∧ bc = w.heap.size + 1 ∧ a = .cells cs 132 ∧ b = .cells cc 2 ∧ c = .cells ch 2) ∨ (bh = w.heap.size + 1 ∧ bs = w.heap.size + 1 + 1 ∧ bc = w.heap.size ∧ a = .cells cc 2 ∧ b = .cells ch 2 ∧ c = .cells cs 132) ∨ (bh = w.heap.size + 1 + 1 ∧ bs = w.heap.size + 1 ∧ bc = w.heap.size ∧ a = .cells cc 2 ∧ b = .cells cs 132 ∧ c = .cells ch 2)) : MadeUp w cells ring 0 w1 := by
  have hb := heap4_below hE e1 e2 e3
  obtain ⟨x0, x1, x2, x3⟩ := heap4 hE
  subst hch hcs hcc
  rcases hp with h | h | h | h | h | h <;> obtain ⟨rfl, rfl, rfl, rfl, rfl, rfl⟩ := h <;> (
    obtain ⟨y1, y2⟩ := mem_made (n1 := n1) (n2 := n2) x3 (by assumption) (by assumption) (by assumption) (by omega) (by omega) (by omega) (by omega) (by omega) (by omega)
    refine ⟨_, _, _, y1, y2, hb, ?_⟩
    rintro b (rfl | h | h | h) <;> first | omega | (simp [Value.ownBlock] at h; omega))
theorem made_next {w wr : World} {cells ring k : Nat} (h : MadeUp w cells ring k wr) (hk : k < ring) : ∃ g c, (wr.cell? ⟨w.heap.size + 1 + 1 + 1, 1, none⟩ = some (.slice (some ⟨g, 0, none⟩) ring c)) ∧ wr.cell? ⟨g, k, none⟩ = some (.int .i64 0) ∧ wr.frozen? ⟨g, k, none⟩ = false ∧ MadeUp w cells ring (k + 1) (wr.setCell ⟨g, k, none⟩ (.int .i64 1)) := by
  obtain ⟨hv, sv, cv, m, ha, hb, hw⟩ := h
  obtain ⟨g, c, rfl, _⟩ := own_parts m.2.1 (by omega)
  have hA : isA ring cells 2 k 0 := .inr (.inl ⟨rfl, ⟨by omega, by omega⟩, rfl⟩)
  have hpl : PlaceOf (w.heap.size + 1 + 1 + 1) (.slice (some ⟨g, 0, none⟩) ring c) sv cv 2 k 0 g k := .inr (.inl ⟨rfl, rfl, rfl, rfl⟩)
  obtain ⟨p1, p2, p3⟩ := place_facts m ha hA hpl
  obtain ⟨_, q1, _, _, _, _⟩ := mem_cells m.1
  refine ⟨g, c, q1, p1.trans ?_, p2 _, _, _, _, memW_congr (p3 1) ?_ (fun i hi => ?_) (fun i j hi hj => ?_) (fun i hi => ?_), ha, hb.setCell (hw g hpl.blk) _, hw⟩
  · unfold headsUp; rw [if_neg (by omega)]
  · unfold upd headsUp; simp
  · unfold upd headsUp
    simp only [true_and, and_true]
    (repeat' split) <;> first | rfl | omega
  · unfold upd headsUp; simp
  · unfold upd headsUp; simp
theorem made_end {w wr : World} {cells ring : Nat} (h : MadeUp w cells ring ring wr) : AtW w (MemH (w.heap.size + 1 + 1 + 1) ring cells []) wr := by
  obtain ⟨hv, sv, cv, m, ha, hb, hw⟩ := h
  refine ⟨fun b => WBlk _ hv sv cv b, ⟨hv, sv, cv, .slice none 0 0, memW_congr m ?_ (fun i hi => ?_) (fun i j hi hj => ?_) (fun i hi => ?_), World.ownsRow_nil _ _ _ _, ha, fun b => by simp [Value.ownBlock]⟩, hb, hw⟩
  · rfl
  · rw [wordOf_nil]; unfold wInit headsUp; rw [if_pos rfl, if_pos ⟨rfl, by omega⟩]
  · rw [wordOf_nil]; unfold wInit headsUp; simp
  · rw [wordOf_nil]; unfold wInit headsUp; simp
theorem made_cell {w wr : World} {cells ring k : Nat} (h : MadeUp w cells ring k wr) (hk : 0 < ring) : ∃ g c, wr.cell? ⟨w.heap.size + 1 + 1 + 1, 1, none⟩ = some (.slice (some ⟨g, 0, none⟩) ring c) := by
  obtain ⟨hv, sv, cv, m, ha, hb, hw⟩ := h
  obtain ⟨g, c, rfl, _⟩ := own_parts m.2.1 hk
  obtain ⟨_, q1, _, _, _, _⟩ := mem_cells m.1
  exact ⟨g, c, q1⟩
set_option maxHeartbeats 4000000 in
set_option maxRecDepth 100000 in
theorem memNew_any (cells ring : Nat) (h1 : 1 ≤ cells) (h2 : cells ≤ 1024) (h3 : 1 ≤ ring) (h4 : ring ≤ 16) (w : World) : Calls Try.prog 8 #[.int .i64 cells, .int .i64 ring] w (MemNew w cells ring) := by
  obtain ⟨ch, hch, mh⟩ := makeI ring (by omega)
  obtain ⟨cs, hcs, ms⟩ := makeS ring (by omega)
  obtain ⟨cc, hcc, mc⟩ := makeI cells (by omega)
  go_enter Try.func8, Try.ntmps8
  go_wp2_with fail
  go_region_law (fail)
  all_goals
    clear mh ms mc
    go_wp2_with fail
    go_loopw [35] (fun i wr => ∃ k : Nat, k ≤ ring ∧ i = .int .i64 k ∧ Hid (MadeUp w cells ring k wr)) (fun i _ => ring - (intOf i).toNat)
    case atStart => exact ⟨0, by omega, rfl, mem_start (by omega) (by omega) rfl rfl rfl rfl hch.out hcs.out hcc.out (by simp)⟩
    case round =>
      obtain ⟨k, hk, rfl, HM⟩ := hrel
      by_cases hlt : k < ring
      · obtain ⟨g, c, x1, x2, x3, x4⟩ := made_next HM.out hlt
        have HX := Lib.hid x4
        clear x4 hch hcs hcc
        go_wp2_with fail
        go_roundw
        case rel => exact ⟨k + 1, by omega, by go_num, HX.out⟩
        case measure => simp [intOf]; omega
      · obtain rfl : k = ring := by omega
        clear hch hcs hcc
        go_wp2_with fail
        go_ret2
        exact ⟨_, rfl, made_end HM.out⟩
end Go.Proofs.Ytojkeahffabifaa
