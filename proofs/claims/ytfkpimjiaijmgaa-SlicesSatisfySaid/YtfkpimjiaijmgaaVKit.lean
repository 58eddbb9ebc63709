/- Small laws between the printed words and the shelf's contracts: rows that are sorted, filtered and read. -/
import Derived.Test.YtfkpimjiaijmgaaWWords
import Derived.Sort.OwnSortedInts
import Derived.Shelf.GgClosure.Gives
namespace Go.Proofs.YtfkpimjiaijmgaaV
open Go Go.RowKit Go.Sort Go.Lib Go.Proofs Go.Proofs.YtfkpimjiaijmgaaW.PrintWords

/-- A slice that is read and not empty: its address, and its cells. -/
theorem addr_of_C {w : World} {A : Option Addr} {n : Nat} {xs : List Int} (h : Kd.C (Kd.int .i64) w A n xs) (hn : 0 < n) :
    ∃ b off, A = some ⟨b, off, none⟩ ∧ b < w.heap.size ∧ ∀ j, j < n → w.cell? ⟨b, off + j, none⟩ = some (.int .i64 (xs.getD j 0)) := by
  obtain ⟨_, _, hc0⟩ := Kd.reads_of_C (d := (0 : Int)) h
  obtain ⟨ad, rfl, hc⟩ := hc0 hn
  clear hc0
  obtain ⟨b, off, spot⟩ := ad
  have h0 := hc 0 hn
  have e0 : (⟨b, off, spot⟩ : Addr).add 0 = ⟨b, off, spot⟩ := by simp [Addr.add]
  rw [e0] at h0
  have hs : spot = none := by
    unfold World.cell? at h0
    cases spot with
    | none => rfl
    | some z => exfalso; revert h0; dsimp only; split <;> simp
  subst hs
  refine ⟨b, off, rfl, World.block_lt_of_cell? w _ h0, fun j hj => ?_⟩
  have := hc j hj
  rw [add_lit' b off j] at this
  exact this
where
  add_lit' (b off j : Nat) : (⟨b, off, none⟩ : Addr).add j = ⟨b, off + j, none⟩ := by
    unfold Addr.add; split <;> simp_all

section
variable {α : Type} [Inhabited α] {enc : α → Value}

theorem holds_of_block {w : World} {g : Nat} {cur : Array Value} {e : TypeId} {ss : List α} (hb : w.heap[g]? = some (.cells cur e (0, 0))) (ht : cur.toList.take ss.length = ss.map enc) : Holds enc w g 0 ss.toArray := by
  intro j hj
  have hj' : j < ss.length := by simpa using hj
  refine ⟨?_, by simp [World.frozen?, hb]⟩
  have h1 : (cur.toList.take ss.length)[j]? = (ss.map enc)[j]? := by rw [ht]
  rw [List.getElem?_take_of_lt hj'] at h1
  simp only [World.cell?, hb, Nat.zero_add]
  simp only [Option.isSome_none, Bool.false_eq_true, if_false]
  rw [← Array.getElem?_toList, h1]
  simp [hj']

theorem heap_put {w : World} {g n : Nat} {os : Array Obj} {cur : Array Value} {e : TypeId} {fr : Nat × Nat} (d : Array α) (hb : w.heap[g]? = some (.cells cur e fr)) :
    (grow (putRow enc (Sort.ahead w n) g 0 d) os).heap[g]? = some (.cells (putCells enc 0 d cur) e fr) := by
  have hg : g < w.heap.size := (Array.getElem?_eq_some_iff.1 hb).1
  rw [heap_grow_old _ _ (by simpa using hg)]
  simp [putRow, mapBlock, Sort.ahead, Array.getElem?_modify, hb, onCells]

theorem grownBy_put {w : World} {g n : Nat} {os : Array Obj} (d : Array α) : w.grownBy (grow (putRow enc (Sort.ahead w n) g 0 d) os) (some g) := by
  refine ⟨rfl, rfl, rfl, by simp, fun k hk hne => ?_⟩
  rw [heap_grow_old _ _ (by simpa using hk)]
  have : g ≠ k := fun e => hne (by rw [e])
  simp [putRow, mapBlock, Sort.ahead, Array.getElem?_modify, this]

theorem take_putCells (cur : Array Value) (ts : List α) (h : ts.length ≤ cur.size) : (putCells enc 0 ts.toArray cur).toList.take ts.length = ts.map enc := by
  apply List.ext_getElem?
  intro j
  by_cases hj : j < ts.length
  · rw [List.getElem?_take_of_lt hj, Array.getElem?_toList]
    simp [putCells, hj, show j < cur.size by omega]
  · rw [List.getElem?_take_eq_none (by omega), List.getElem?_eq_none (by simp; omega)]

/-- Behind a turn of its cells a row holds what was put there; it may be cut. -/
theorem own_put {w : World} {base g cap n m q : Nat} {e : TypeId} {os : Array Obj} {xs : List Value} (ts : List α) (h : w.ownsRow base e 1 (.slice (some ⟨g, 0, none⟩) n cap) n xs) (ht : ts.length ≤ n) (hm : m ≤ ts.length) :
    (grow (putRow enc (Sort.ahead w q) g 0 ts.toArray) os).ownsRow base e 1 (.slice (some ⟨g, 0, none⟩) m cap) m ((ts.take m).map enc) := by
  rcases h.2 with ⟨h0, _⟩ | ⟨g', cap', cur, hv, hg, hb, hn, hcap, hcs, _⟩
  · cases h0
  cases hv
  refine ⟨by simp; omega, .inr ⟨g, cap, _, rfl, hg, heap_put _ hb, by omega, hcap, by simp [putCells, hcs], ?_⟩⟩
  have := take_putCells (enc := enc) cur ts (by omega)
  rw [Nat.mul_one, List.map_take, ← this, List.take_take, Nat.min_eq_left hm]

/-- The cells of an own row, as the sort asks. -/
theorem holds_of_own {w : World} {base g cap n : Nat} {e : TypeId} {xs : List α} (h : w.ownsRow base e 1 (.slice (some ⟨g, 0, none⟩) n cap) n (xs.map enc)) :
    Holds enc w g 0 xs.toArray ∧ g < w.heap.size ∧ base ≤ g ∧ xs.length = n ∧ n ≤ cap := by
  have hl : xs.length = n := by have := h.1; simpa using this
  rcases h.2 with ⟨h0, _⟩ | ⟨g', cap', cur, hv, hg, hb, hn, hcap, hcs, ht⟩
  · cases h0
  cases hv
  refine ⟨holds_of_block hb (by rw [hl]; rwa [Nat.mul_one] at ht), (Array.getElem?_eq_some_iff.1 hb).1, hg, hl, hn⟩
end
/-- A slice of two, just made. -/
theorem C_pair (W : World) (x y : Int) (T : TypeId) : Kd.C (Kd.int .i64) (W.alloc (.cells #[.int .i64 x, .int .i64 y] T)) (some ⟨W.heap.size, 0, none⟩) [x, y].length [x, y] :=
  Kd.C_of_reads (d := (0 : Int)) ⟨rfl, by simp, fun _ => ⟨_, rfl, fun j hj => by
    have hj' : j = 0 ∨ j = 1 := by simp at hj; omega
    have hb : (W.alloc (.cells #[.int .i64 x, .int .i64 y] T)).heap[W.heap.size]? = some (.cells #[.int .i64 x, .int .i64 y] T (0, 0)) := heap_alloc_new W _
    rw [add_plain]
    rcases hj' with rfl | rfl
    · exact (blk_cell hb 0).trans rfl
    · exact (blk_cell hb 1).trans rfl⟩⟩
/-- A literal of whole numbers, just made. -/
theorem C_lit (W : World) (xs : List Int) (cs : Array Value) (T : TypeId) (h : cs = (xs.map (Value.int .i64)).toArray) (hm : xs.length ≤ 9223372036854775807) : Kd.C (Kd.int .i64) (W.alloc (.cells cs T)) (some ⟨W.heap.size, 0, none⟩) xs.length xs :=
  Kd.C_of_reads (d := (0 : Int)) ⟨rfl, hm, fun _ => ⟨_, rfl, fun j hj => by
    have hb : (W.alloc (.cells cs T)).heap[W.heap.size]? = some (.cells cs T (0, 0)) := heap_alloc_new W _
    rw [add_plain]
    refine (blk_cell hb j).trans ?_
    subst h
    simp [List.getD, hj]⟩⟩
theorem grow_drewN_alloc (w : World) (n m : Nat) (o : Obj) : ((w.drewN n).alloc o).drewN m = grow (w.drewN (n + m)) #[o] := by
  rw [alloc_eq_grow]
  show grow ((w.drewN n).drewN m) #[o] = _
  rw [World.drewN_drewN]

theorem below_grown {w W w1 : World} {g : Nat} (h : Below w.heap.size w W) (hg : W.grownBy w1 (some g)) (hb : w.heap.size ≤ g) : Below w.heap.size w w1 :=
  h.grown hg h.size (by intro k hk; cases hk; exact hb)
end Go.Proofs.YtfkpimjiaijmgaaV
