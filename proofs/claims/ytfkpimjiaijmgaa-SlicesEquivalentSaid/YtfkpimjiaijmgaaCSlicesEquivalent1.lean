/- SlicesEquivalent: the texts of the claim, put together (part 2 of 7). The law is proved in the last one: it takes no condition beyond the statement's own. -/
import Derived.Tactics
import Derived.KernelRfl
import Derived.WalkKit
import Derived.Test.YtfkpimjiaijmgaaProg
import Derived.Below
import Derived.Deep.Draws
import Derived.Deep.AppendLies
import Derived.Maps.AppendAt
import Derived.OwnWalk
import Derived.Laws.BytesArg
import Derived.Laws.MakeOwn
import Derived.Laws.OwnMore
import Derived.Deep.OwnRows
import Derived.Lib.ConvBytes
import Derived.Laws.Slices
import Derived.RowKit3
import Derived.Deep.LoopGhost
import Derived.Deep.QuietTactic
import Derived.BigQuiet
import Derived.WideLaws
import Derived.Deep.DeepCutAuto
import Derived.Deep.CutBlock
import Derived.Deep.RegionHeld3
import Derived.Laws.Rows
import Derived.Lib.AppendStr
import Derived.ArgAppend
import Derived.Laws.IdiomCopy
import Derived.OrdersHeld
import Derived.Laws.BitsLemmas
import Derived.RowKit
import Derived.Sort.OwnSortedInts
import Derived.Shelf.GgClosure.Gives
import Derived.Test.YtfkpimjiaijmgaaCSlicesEquivalent0
section
namespace Go.Proofs.YtfkpimjiaijmgaaW.PrintWords
set_option linter.unusedVariables false
open Go Go.RowKit Go.Proofs Go.Proofs.YtfkpimjiaijmgaaW.PrintWords Go.Proofs.YtfkpimjiaijmgaaW.PrintLast
section
variable {α : Type} {d : Kd α} {e base n : Nat} {ok : Nat → Prop} {w W W1 : World} {v : Value} {xs : List α} {A : Option Addr} {g : Nat} {o : Obj}
theorem bU (H : Aside0 (W.heap[g]? = some o)) (up : W.heap[g]? = some o → W1.heap[g]? = some o := by intro h; (with_reducible repeat (first | refine blk_drewN ?_ _ | refine blk_drew ?_ | refine blk_alloc ?_ _)); exact h) : W1.heap[g]? = some o := up H.out
theorem Kd.uV (H : Aside0 (Kd.V d e W base ok v xs)) (up : Kd.V d e W base ok v xs → Kd.V d e W1 base ok v xs := by intro h; (with_reducible repeat (first | apply Kd.V_alloc | apply Kd.V_drewN | apply Kd.V_drew)); exact h) : Kd.V d e W1 base ok v xs := up H.out
theorem Kd.uR (H : Aside0 (Kd.R d e W base ok v xs)) (up : Kd.R d e W base ok v xs → Kd.R d e W1 base ok v xs := by intro h; (with_reducible repeat (first | apply Kd.R_alloc | apply Kd.R_drewN | apply Kd.R_drew)); exact h) : Kd.R d e W1 base ok v xs := up H.out
theorem Kd.uN (H : Aside0 (Kd.N d e W base ok v xs)) (up : Kd.N d e W base ok v xs → Kd.N d e W1 base ok v xs := by intro h; (with_reducible repeat (first | apply Kd.N_alloc | apply Kd.N_drewN | apply Kd.N_drew)); exact h) : Kd.N d e W1 base ok v xs := up H.out
theorem Kd.uC (H : Kd.C d W A n xs) (up : Kd.C d W A n xs → Kd.C d W1 A n xs := by intro h; (repeat (first | exact h | (with_reducible refine Kd.C_alloc ?_ _) | (with_reducible refine Kd.C_drewN ?_ _) | (with_reducible refine Kd.C_drew ?_)))) : Kd.C d W1 A n xs := up H
theorem bB (H : Aside0 (Below w.heap.size w W)) (up : Below w.heap.size w W → Below w.heap.size w W1 := by intro h; (repeat (first | (with_reducible first | exact h | apply below_alloc | apply pw_below_drewN | apply below_drew1 | refine below_set ?_ (by first | exact Aside0.out (by assumption) | exact IsS44.ge (Aside0.out (by assumption)))) | exact h))) : Below w.heap.size w W1 := up H.out
theorem kU {k : Nat} {r : Option Nat} (H : Aside0 (KeepBut w W k r)) (up : KeepBut w W k r → KeepBut w W1 k r := by intro h; (repeat (first | (with_reducible first | exact h | apply KeepBut.set_ | apply keep_drewN | apply keep_drew | apply keep_alloc) | exact h))) : KeepBut w W1 k r := up H.out
theorem iU {p q : Prop} (H : Aside0 p) (up : p → q := by intro h; (repeat (first | (with_reducible first | exact h | apply IsS44.alloc | apply IsS44.drewN | apply IsS44.drew | apply IsS44.set_1 | refine IsS44.far ?_ (Aside0.out (by assumption)) _) | exact h))) : q := up H.out
theorem bF (H : Aside0 (W.heap[g]? = some o)) (up : W.heap[g]? = some o → W1.heap[g]? = some o := by intro h; (repeat (first | (with_reducible first | refine blk_drewN ?_ _ | refine blk_drew ?_ | refine blk_alloc ?_ _) | refine blk_far ?_ (Aside0.out (by assumption)) _)); exact h) : W1.heap[g]? = some o := up H.out
theorem Kd.bV (H : Aside0 (Kd.V d e w base ok v xs)) (hb : Below W.heap.size W W1) (up : Kd.V d e w base ok v xs → Kd.V d e W base ok v xs := by intro h; (with_reducible repeat (first | apply Kd.V_alloc | apply Kd.V_drewN | apply Kd.V_drew)); exact h) : Aside0 (Kd.V d e W1 base ok v xs) := ⟨Kd.V_below (up H.out) hb⟩
theorem Kd.bR (H : Aside0 (Kd.R d e w base ok v xs)) (hb : Below W.heap.size W W1) (up : Kd.R d e w base ok v xs → Kd.R d e W base ok v xs := by intro h; (with_reducible repeat (first | apply Kd.R_alloc | apply Kd.R_drewN | apply Kd.R_drew)); exact h) : Aside0 (Kd.R d e W1 base ok v xs) := ⟨Kd.R_below (up H.out) hb⟩
theorem Kd.bN (H : Aside0 (Kd.N d e w base ok v xs)) (hb : Below W.heap.size W W1) (up : Kd.N d e w base ok v xs → Kd.N d e W base ok v xs := by intro h; (with_reducible repeat (first | apply Kd.N_alloc | apply Kd.N_drewN | apply Kd.N_drew)); exact h) : Aside0 (Kd.N d e W1 base ok v xs) := ⟨Kd.N_below (up H.out) hb⟩
theorem bb (H : Aside0 (w.heap[g]? = some o)) (hb : Below W.heap.size W W1) (up : w.heap[g]? = some o → W.heap[g]? = some o := by intro h; (with_reducible repeat (first | refine blk_drewN ?_ _ | refine blk_drew ?_ | refine blk_alloc ?_ _)); exact h) : Aside0 (W1.heap[g]? = some o) := ⟨blk_below (up H.out) hb⟩
theorem bs {W0 : World} (H : Aside0 (Below w.heap.size w W0)) (hb : Below W.heap.size W W1) (up : Below w.heap.size w W0 → Below w.heap.size w W := by intro h; (repeat (first | (with_reducible first | exact h | apply below_alloc | apply pw_below_drewN | apply below_drew1 | refine below_set ?_ (by first | exact Aside0.out (by assumption) | exact IsS44.ge (Aside0.out (by assumption)))) | exact h))) : Aside0 (Below w.heap.size w W1) := ⟨below_step (up H.out) hb⟩
variable {a b c a' b' c' : Value}
theorem bP3 {T : TypeId} (H : Aside0 (W.heap[g]? = some (.cells #[a', b', c'] T (0, 0)))) : (((W.setCell ⟨g, 0, none⟩ a).setCell ⟨g, 1, none⟩ b).setCell ⟨g, 2, none⟩ c).heap[g]? = some (.cells #[a, b, c] T (0, 0)) := blk_put (blk_put (blk_put H.out 0 a rfl) 1 b rfl) 2 c rfl
theorem Kd.R_ft1 {i : Nat} (h : Kd.R d e W base (fun k => ok k ∧ k ≠ g) v xs) : Kd.R d e (W.setCell ⟨g, i, none⟩ a) base ok v xs := Kd.R_mono (Kd.R_far (p := ⟨g, i, none⟩) h (fun _ hk => hk.2) a) (fun _ hk => hk.1)
theorem Kd.R_ft3 {i j l : Nat} (h : Kd.R d e W base (fun k => ok k ∧ k ≠ g) v xs) : Kd.R d e (((W.setCell ⟨g, i, none⟩ a).setCell ⟨g, j, none⟩ b).setCell ⟨g, l, none⟩ c) base ok v xs :=
 Kd.R_mono (Kd.R_far (p := ⟨g, l, none⟩) (Kd.R_far (p := ⟨g, j, none⟩) (Kd.R_far (p := ⟨g, i, none⟩) h (fun _ hk => hk.2) a) (fun _ hk => hk.2) b) (fun _ hk => hk.2) c) (fun _ hk => hk.1)
theorem Kd.V_fw1 {p : Addr} (h : Kd.V d e W base ok v xs) (hne : ∀ k, ok k → k ≠ p.block) : Kd.V d e (W.setCell p a) base ok v xs :=
 Kd.V_mono (Kd.V_far (p := p) (Kd.V_mono h (fun k hk => (⟨hk, hne k hk⟩ : _ ∧ k ≠ p.block))) (fun _ hk => hk.2) a) (fun _ hk => hk.1)
theorem Kd.R_fw1 {p : Addr} (h : Kd.R d e W base ok v xs) (hne : ∀ k, ok k → k ≠ p.block) : Kd.R d e (W.setCell p a) base ok v xs :=
 Kd.R_mono (Kd.R_far (p := p) (Kd.R_mono h (fun k hk => (⟨hk, hne k hk⟩ : _ ∧ k ≠ p.block))) (fun _ hk => hk.2) a) (fun _ hk => hk.1)
theorem Kd.N_fw1 {p : Addr} (h : Kd.N d e W base ok v xs) (hne : ∀ k, ok k → k ≠ p.block) : Kd.N d e (W.setCell p a) base ok v xs :=
 Kd.N_mono (Kd.N_far (p := p) (Kd.N_mono h (fun k hk => (⟨hk, hne k hk⟩ : _ ∧ k ≠ p.block))) (fun _ hk => hk.2) a) (fun _ hk => hk.1)
theorem Kd.V_fw3 {i j k : Nat} (h : Kd.V d e W base ok v xs) (hne : ∀ k, ok k → k ≠ g) : Kd.V d e (((W.setCell ⟨g, i, none⟩ a).setCell ⟨g, j, none⟩ b).setCell ⟨g, k, none⟩ c) base ok v xs := Kd.V_fw1 (Kd.V_fw1 (Kd.V_fw1 h hne) hne) hne
theorem Kd.R_fw3 {i j k : Nat} (h : Kd.R d e W base ok v xs) (hne : ∀ k, ok k → k ≠ g) : Kd.R d e (((W.setCell ⟨g, i, none⟩ a).setCell ⟨g, j, none⟩ b).setCell ⟨g, k, none⟩ c) base ok v xs := Kd.R_fw1 (Kd.R_fw1 (Kd.R_fw1 h hne) hne) hne
theorem Kd.N_fw3 {i j k : Nat} (h : Kd.N d e W base ok v xs) (hne : ∀ k, ok k → k ≠ g) : Kd.N d e (((W.setCell ⟨g, i, none⟩ a).setCell ⟨g, j, none⟩ b).setCell ⟨g, k, none⟩ c) base ok v xs := Kd.N_fw1 (Kd.N_fw1 (Kd.N_fw1 h hne) hne) hne
variable {l : List Value} {T : TypeId}
theorem bC0 (H : Aside0 (W.heap[g]? = some (.cells (List.toArray (a :: l)) T (0, 0)))) : W.cell? ⟨g, 0, none⟩ = some a := (blk_cell H.out 0).trans rfl
theorem bC1 (H : Aside0 (W.heap[g]? = some (.cells (List.toArray (a :: b :: l)) T (0, 0)))) : W.cell? ⟨g, 1, none⟩ = some b := (blk_cell H.out 1).trans rfl
theorem bC2 (H : Aside0 (W.heap[g]? = some (.cells (List.toArray (a :: b :: c :: l)) T (0, 0)))) : W.cell? ⟨g, 2, none⟩ = some c := (blk_cell H.out 2).trans rfl
end
section
variable {P : Program} {ops : Array Oper} {Q : Exit → Act → World → Prop} {md : Region.Mode} {S : World → Prop} {ds : List Nat}
theorem pureA_ {T : Bool × List (List Nat × List Nat)} (i : Nat) (N : Tmp) {oi : Oper} {v : Value} {fuel : Nat} {l : Array Bool} {a : Act} {w : World} {l' : Array Bool} (HT : Aside0 (rtab md ops = T)) {a' : Act} (h : wpAnyLast P md ops Q S ds fuel l' a' w)
 (hi : ops[i]? = some oi := by rfl) (hN : oi.dst = some N := by rfl) (hl : l.setIfInBounds i true = l' := by simp only [List.setIfInBounds_toArray, List.set_cons_zero, List.set_cons_succ]; rfl) (hc : anyT T l.toList l'.toList i = true := by kernel_rfl) (hQ : ∀ c a w, Q (.panic c) (a.put oi.dst v) w → Q (.panic c) a w := by exact fun _ _ _ h => h)
 (hy : Yields P ops oi v a := by refine Or.inl ⟨by rfl, ?_⟩; intro w'; go_simp; with_reducible rfl) (ha : a.put (some N) v = a' := by simp only [Act.put, List.setIfInBounds_toArray, List.set_cons_zero, List.set_cons_succ, i64_w, i32_w]; rfl) : wpAnyLast P md ops Q S ds (fuel + 1) l a w :=
 pure_ l' hi hN (any_of HT.out hc) hQ hy ha h
theorem pureU_ {T : Bool × List (List Nat × List Nat)} (i : Nat) (N : Tmp) {oi : Oper} {fuel : Nat} {l : Array Bool} {a : Act} {w : World} {l' : Array Bool} (HT : Aside0 (rtab md ops = T)) {a' : Act} (h : wpAnyLast P md ops Q S ds fuel l' a' w)
 (hi : ops[i]? = some oi := by rfl) (hN : oi.dst = some N := by rfl) (hl : l.setIfInBounds i true = l' := by simp only [List.setIfInBounds_toArray, List.set_cons_zero, List.set_cons_succ]; rfl) (hc : anyT T l.toList l'.toList i = true := by kernel_rfl) (hQ : ∀ c a w, Q (.panic c) (a.put oi.dst undef) w → Q (.panic c) a w := by exact fun _ _ _ h => h)
 (hy : Yields P ops oi undef a := by exact Or.inr ⟨by rfl, rfl⟩) (ha : a.put (some N) undef = a' := by simp only [Act.put, List.setIfInBounds_toArray, List.set_cons_zero, List.set_cons_succ, i64_w, i32_w]; rfl) : wpAnyLast P md ops Q S ds (fuel + 1) l a w :=
 pure_ l' hi hN (any_of HT.out hc) hQ hy ha h
theorem takeA_ {T : Bool × List (List Nat × List Nat)} {B : List Nat} (i : Nat) (N : Tmp) {oi : Oper} {v : Value} {fuel : Nat} {l : Array Bool} {a : Act} {w : World} {l' : Array Bool} (HT : Aside0 (rtab md ops = T)) (HW : Aside0 (waitsOk T.2 B = true)) (hS : S w) {a' : Act} (h : wpAnyLast P md ops Q S ds fuel l' a' w)
 (hi : ops[i]? = some oi := by rfl) (hN : oi.dst = some N := by rfl) (hl : l.setIfInBounds i true = l' := by simp only [List.setIfInBounds_toArray, List.set_cons_zero, List.set_cons_succ]; rfl) (hc : takeW T B ds l.toList l'.toList i = true := by kernel_rfl) (hQ : ∀ c a w, Q (.panic c) (a.put oi.dst v) w → Q (.panic c) a w := by exact fun _ _ _ h => h)
 (hy : YieldsIf P ops S oi v a := by refine Or.inl ⟨by rfl, ?_⟩; intro w' hS_; (repeat (rcases hS_ with ⟨_, hS_⟩)); go_simp; with_reducible rfl) (ha : a.put (some N) v = a' := by simp only [Act.put, List.setIfInBounds_toArray, List.set_cons_zero, List.set_cons_succ, i64_w, i32_w]; rfl) : wpAnyLast P md ops Q S ds (fuel + 1) l a w :=
 take_ l' hi hN (take_ofW HT.out HW.out hc) hQ hy hS ha h
theorem normA_ {fuel : Nat} {l : Array Bool} {a a' : Act} {w : World} (h : wpAnyLast P md ops Q S ds fuel l a' w) (ha : a = a' := by show Act.put _ (some _) _ = _; simp only [Act.put, List.setIfInBounds_toArray, List.set_cons_zero, List.set_cons_succ, i64_w, i32_w]; rfl) : wpAnyLast P md ops Q S ds fuel l a w := norm_ ha h
theorem goesA_ {rest : List Oper} {oi : Oper} {a : Act} {w : World} (N : Option Tmp) (hd : oi.dst = N) (hg : oi.guard = none) {f : FuncId} {fn : Func} {as_ : Array Operand} {ts : Array TypeId} (hf : P.funcs[f]? = some fn) (hb : fn.body.isSome = true) (args : Array Value)
 (hop : oi.op = .call { callee := .value (.func f), args := as_, argTypes := ts }) (h : Calls P f args w fun e w' => ∃ v, e = .returned v ∧ wpList P ops Q rest (a.put N v) w') (hname : (fn.name == "runtime.NumGoroutine") = false := by kernel_rfl)
 (hargs : as_.map a.eval = args := by ((try simp only [List.map_toArray, List.map_cons, List.map_nil]); first | done | rfl | (simp only [List.length_drop, List.length_take]; rfl))) : wpList P ops Q (oi :: rest) a w := goesL_ N hd hg hf hname hb args hop hargs h
end
end Go.Proofs.YtfkpimjiaijmgaaW.PrintWords
end
section
namespace Go.Proofs.Ytfkpimjiaijmgaa.G
open Go.RowKit Go.Proofs.YtfkpimjiaijmgaaW.PrintWords Go.Proofs.YtfkpimjiaijmgaaW.PrintLast Go.Proofs.YtfkpimjiaijmgaaW.PrintMore
attribute [local go_sem] max2_int min2_int max_two min_two max_three min_three max_four min_four   -- for this text's walks alone
set_option linter.unusedVariables false
set_option linter.unusedSimpArgs false
def errW : Option Int → Value
 | none => .nilIface
 | some c => .iface 0 (.int .i64 c)
theorem errW_none : errW none = .nilIface := rfl
theorem errW_some (c : Int) : errW (some c) = .iface 0 (.int .i64 c) := rfl
theorem info3 : (Try.prog.info? 3).map (fun i => (i.zero, i.size, i.bytes)) = some (some (.int .i64 0), 1, 8) := by kernel_rfl
theorem info27 : (Try.prog.info? 27).map (fun i => (i.zero, i.size, i.bytes)) = some (some (.agg #[(.int .i64 0), (.slice none 0 0), (.slice none 0 0)]), 3, 56) := by kernel_rfl
structure S27 where
 f0 : Int
 f1 : (List Int)
 f2 : (List S27)
def z27 : S27 := ⟨(0 : Int), ([] : List Int), ([] : List S27)⟩
def F27 (d : Kd S27) : Kd S27 := Kd.iso (Kd.pair (Kd.int .i64) (Kd.pair (Kd.slice 3 (Kd.int .i64)) (Kd.slice 27 d))) (fun x : S27 => (x.f0, x.f1, x.f2))
theorem mono27 : Kd.Mono F27 := Kd.mono_iso _ (Kd.mono_pair (Kd.mono_const _) (Kd.mono_pair (Kd.mono_const _) (Kd.mono_slice 27 Kd.mono_id)))
theorem sub27 : Kd.Sub F27 [3, 27] := Kd.sub_iso _ (Kd.sub_pair (Kd.sub_const _ (by decide)) (Kd.sub_pair (Kd.sub_const _ (by decide)) (Kd.sub_slice 27 (by decide) Kd.sub_id)))
theorem sz27 : ∀ n, (Kd.upto F27 3 [3, 27] n).sz = 3 := Kd.upto_sz (fun _ => rfl)
def k27 : Kd S27 := Kd.fix F27 3 [3, 27] sz27 (Kd.upto_E sub27)
theorem k27_open {w : World} {x : S27} {cs : List Value} (h : k27.K w x cs) : ∃ A1 c1 A2 c2, cs = [.int .i64 x.f0, .slice A1 x.f1.length c1, .slice A2 x.f2.length c2] ∧ x.f1.length ≤ c1 ∧ (Kd.int .i64).C w A1 x.f1.length x.f1 ∧ x.f2.length ≤ c2 ∧ k27.C w A2 x.f2.length x.f2 := by
 obtain ⟨n, h⟩ := h
 cases n with
 | zero => exact h.elim
 | succ n =>
  obtain ⟨_, _, rfl, rfl, ⟨_, _, rfl, ⟨A1, c1, rfl, l1, g1⟩, ⟨A2, c2, rfl, l2, g2⟩⟩⟩ := h
  exact ⟨A1, c1, A2, c2, rfl, l1, g1, l2, Kd.fix_C g2⟩
theorem k27_mk (w : World) (x : S27) {A1 : Option Addr} {c1 : Nat} (l1 : x.f1.length ≤ c1) (g1 : (Kd.int .i64).C w A1 x.f1.length x.f1) {A2 : Option Addr} {c2 : Nat} (l2 : x.f2.length ≤ c2) (g2 : k27.C w A2 x.f2.length x.f2) : k27.K w x [.int .i64 x.f0, .slice A1 x.f1.length c1, .slice A2 x.f2.length c2] := by
 obtain ⟨n2, q2⟩ := Kd.fix_C_back mono27 g2
 have r2 := Kd.upto_C_le mono27 sz27 (show n2 ≤ n2 by omega) q2
 exact ⟨n2 + 1, ⟨[.int .i64 x.f0], [.slice A1 x.f1.length c1, .slice A2 x.f2.length c2], rfl, rfl, ⟨[.slice A1 x.f1.length c1], [.slice A2 x.f2.length c2], rfl, ⟨A1, c1, rfl, l1, g1⟩, ⟨A2, c2, rfl, l2, r2⟩⟩⟩⟩
theorem k27_mkM (w : World) (base : Nat) (ok : Nat → Prop) (x : S27) {v1 : Value} (g1 : (Kd.int .i64).R 3 w base ok v1 x.f1) {v2 : Value} (g2 : k27.R 27 w base ok v2 x.f2) : k27.M w base ok x [.int .i64 x.f0, v1, v2] := by
 obtain ⟨n2, q2⟩ := Kd.fix_R_back mono27 g2
 have r2 := Kd.upto_R_le mono27 sz27 (show n2 ≤ n2 by omega) q2
 exact ⟨n2 + 1, ⟨[.int .i64 x.f0], [v1, v2], rfl, rfl, ⟨[v1], [v2], rfl, ⟨v1, rfl, g1⟩, ⟨v2, rfl, r2⟩⟩⟩⟩
theorem k27_openF {W : World} {ok : Nat → Prop} {x : S27} {cs : List Value} (h : Kd.FK k27 W ok x cs) : ∃ A1 c1 A2 c2, cs = [.int .i64 x.f0, .slice A1 x.f1.length c1, .slice A2 x.f2.length c2] ∧ x.f1.length ≤ c1 ∧ Kd.F (Kd.int .i64) W ok A1 x.f1.length x.f1 ∧ x.f2.length ≤ c2 ∧ Kd.F k27 W ok A2 x.f2.length x.f2 := by
 obtain ⟨A1, c1, A2, c2, rfl, l1, _, l2, _⟩ := k27_open (Kd.FK_now h)
 exact ⟨A1, c1, A2, c2, rfl, l1, (fun W' hW => by obtain ⟨A1_, c1_, A2_, c2_, he, l1_, g1_, l2_, g2_⟩ := k27_open (h W' hW); injection (Option.some.inj (show some (Value.slice A1 x.f1.length c1) = some (Value.slice A1_ x.f1.length c1_) from congrArg (fun l => l[1]?) he)) with ha_ _ _; rw [ha_]; exact g1_), l2, (fun W' hW => by obtain ⟨A1_, c1_, A2_, c2_, he, l1_, g1_, l2_, g2_⟩ := k27_open (h W' hW); injection (Option.some.inj (show some (Value.slice A2 x.f2.length c2) = some (Value.slice A2_ x.f2.length c2_) from congrArg (fun l => l[2]?) he)) with ha_ _ _; rw [ha_]; exact g2_)⟩
theorem k27_mkF (W : World) (ok : Nat → Prop) (x : S27) {A1 : Option Addr} {c1 : Nat} (l1 : x.f1.length ≤ c1) (g1 : Kd.F (Kd.int .i64) W ok A1 x.f1.length x.f1) {A2 : Option Addr} {c2 : Nat} (l2 : x.f2.length ≤ c2) (g2 : Kd.F k27 W ok A2 x.f2.length x.f2) : Kd.FK k27 W ok x [.int .i64 x.f0, .slice A1 x.f1.length c1, .slice A2 x.f2.length c2] := fun W2 hW => k27_mk W2 x l1 (g1 W2 hW) l2 (g2 W2 hW)
def rd_T27 (xs : List S27) (i : Int) : S27 := xs.getD i.toNat z27
theorem at_T27 {w : World} {A : Option Addr} {n : Nat} {xs : List S27} (h : Kd.C k27 w A n xs) (i : Int) (h0 : 0 ≤ i) (h1 : i < n) : ∃ ad A1 c1 A2 c2, A = some ad ∧ w.cell? (ad.add (i.toNat * 3)) = some (.int .i64 (rd_T27 xs i).f0) ∧ w.cell? ⟨(ad.add (i.toNat * 3)).block, (ad.add (i.toNat * 3)).off + 1, none⟩ = some (.slice A1 (rd_T27 xs i).f1.length c1) ∧ w.cell? ⟨(ad.add (i.toNat * 3)).block, (ad.add (i.toNat * 3)).off + 2, none⟩ = some (.slice A2 (rd_T27 xs i).f2.length c2) ∧ (rd_T27 xs i).f1.length ≤ c1 ∧ (Kd.int .i64).C w A1 (rd_T27 xs i).f1.length (rd_T27 xs i).f1 ∧ (rd_T27 xs i).f2.length ≤ c2 ∧ k27.C w A2 (rd_T27 xs i).f2.length (rd_T27 xs i).f2 := by
 obtain ⟨ad, c, e, _, hK, hc0⟩ := Kd.C_get h z27 i h0 h1
 have hc : ∀ j u, c[j]? = some u → w.cell? (ad.add (i.toNat * 3 + j)) = some u := hc0
 obtain ⟨A1, c1, A2, c2, rfl, l1, g1, l2, g2⟩ := k27_open hK
 exact ⟨ad, A1, c1, A2, c2, e, hc 0 _ rfl, by rw [← add_field _ _ 1 (by omega)]; exact hc 1 _ rfl, by rw [← add_field _ _ 2 (by omega)]; exact hc 2 _ rfl, l1, g1, l2, g2⟩
end Go.Proofs.Ytfkpimjiaijmgaa.G
end
section
namespace Go.Proofs.Ytfkpimjiaijmgaa.G
open Go.RowKit Go.Proofs.YtfkpimjiaijmgaaW.PrintWords Go.Proofs.YtfkpimjiaijmgaaW.PrintLast Go.Proofs.YtfkpimjiaijmgaaW.PrintMore
attribute [local go_sem] max2_int min2_int max_two min_two max_three min_three max_four min_four   -- for this text's walks alone
set_option linter.unusedVariables false
set_option linter.unusedSimpArgs false
/-- A state of type 44 at block g of W; what its slices lead to came in by w0. -/
def IsS44 (w0 W : World) (g : Nat) (f0 : List Int) (f1 : Int) : Prop := ∃ A0 c0, W.heap[g]? = some (.cells #[.slice A0 f0.length c0, .int .i64 f1] 44 (0, 0)) ∧ w0.heap.size ≤ g ∧ Kd.C (Kd.int .i64) w0 A0 f0.length f0
theorem IsS44.grown {w0 W : World} {g : Nat} {f0 : List Int} {f1 : Int} {W1 : World} {row : Option Nat} (h : IsS44 w0 W g f0 f1) (hw : W.grownBy W1 row) (hne : some g ≠ row) : IsS44 w0 W1 g f0 f1 := by
 obtain ⟨A0, c0, hb, hg, hr0⟩ := h
 exact ⟨A0, c0, blk_grown hb hw hne, hg, hr0⟩
theorem IsS44.fresh {w0 W : World} {g : Nat} {f0 : List Int} {f1 : Int} (h : IsS44 w0 W g f0 f1) : ∀ k, W.heap.size ≤ k → k ≠ g := by
 obtain ⟨A0, c0, hb, hg, hr0⟩ := h
 exact Kd.freshB hb
theorem IsS44.kept {w0 W : World} {g : Nat} {f0 : List Int} {f1 : Int} {W1 : World} {S : Nat → Prop} (h : IsS44 w0 W g f0 f1) (hk : Kept W W1 S) (hne : ¬ S g) : IsS44 w0 W1 g f0 f1 := by
 obtain ⟨A0, c0, hb, hg, hr0⟩ := h
 exact ⟨A0, c0, blk_kept hb hk hne, hg, hr0⟩
theorem IsS44.below {w0 W : World} {g : Nat} {f0 : List Int} {f1 : Int} {W1 : World} (h : IsS44 w0 W g f0 f1) (hw : Below W.heap.size W W1) : IsS44 w0 W1 g f0 f1 := h.grown (grown_of_below hw none) (by simp)
theorem IsS44.alloc {w0 W : World} {g : Nat} {f0 : List Int} {f1 : Int} (h : IsS44 w0 W g f0 f1) (o : Obj) : IsS44 w0 (W.alloc o) g f0 f1 := h.below (below_alloc (Below.refl _ _) o)
theorem IsS44.drewN {w0 W : World} {g : Nat} {f0 : List Int} {f1 : Int} (h : IsS44 w0 W g f0 f1) (m : Nat) : IsS44 w0 (W.drewN m) g f0 f1 := h
theorem IsS44.drew {w0 W : World} {g : Nat} {f0 : List Int} {f1 : Int} (h : IsS44 w0 W g f0 f1) : IsS44 w0 W.drew g f0 f1 := h
theorem IsS44.at_ {w0 W : World} {g : Nat} {f0 : List Int} {f1 : Int} {w' : World} {m : Nat} (hq : W.drewN m = w') (h : IsS44 w0 W g f0 f1) : IsS44 w0 w' g f0 f1 := by subst hq; exact IsS44.drewN h m
theorem IsS44.apart {w0 W : World} {g : Nat} {f0 : List Int} {f1 : Int} {α : Type} {d : Kd α} {e : Nat} {base : Nat} {ok : Nat → Prop} {v : Value} {xs : List α} (h : IsS44 w0 W g f0 f1) (ho : d.R e W base ok v xs) (ht : ∀ q, q ∈ e :: d.E → q ≠ 44) : d.R e W base (fun k => ok k ∧ k ≠ g) v xs := by
 obtain ⟨A0, c0, hb, hg, hr0⟩ := h
 exact Kd.R_types ho hb ht
theorem IsS44.own_ne {w0 W : World} {g : Nat} {f0 : List Int} {f1 : Int} {α : Type} {d : Kd α} {e : Nat} {base : Nat} {ok : Nat → Prop} {v : Value} {xs : List α} (h : IsS44 w0 W g f0 f1) (ho : d.R e W base ok v xs) (ht : e ≠ 44) : some g ≠ v.ownBlock := by
 obtain ⟨A0, c0, hb, hg, hr0⟩ := h
 exact Kd.R_ne ho hb ht
theorem IsS44.lt {w0 W : World} {g : Nat} {f0 : List Int} {f1 : Int} (h : IsS44 w0 W g f0 f1) : g < W.heap.size := by
 obtain ⟨A0, c0, hb, hg, hr0⟩ := h
 exact blk_lt hb
theorem IsS44.ge {w0 W : World} {g : Nat} {f0 : List Int} {f1 : Int} (h : IsS44 w0 W g f0 f1) : w0.heap.size ≤ g := by
 obtain ⟨A0, c0, hb, hg, hr0⟩ := h
 exact hg
theorem IsS44.far {w0 W : World} {g : Nat} {f0 : List Int} {f1 : Int} {p : Addr} (h : IsS44 w0 W g f0 f1) (hne : g ≠ p.block) (u : Value) : IsS44 w0 (W.setCell p u) g f0 f1 := by
 obtain ⟨A0, c0, hb, hg, hr0⟩ := h
 exact ⟨A0, c0, blk_far hb hne u, hg, hr0⟩
theorem cellS44_0 {W : World} {g : Nat} {A0 : Option Addr} {c0 : Nat} {f0 : List Int} {f1 : Int} (h : W.heap[g]? = some (.cells #[.slice A0 f0.length c0, .int .i64 f1] 44 (0, 0))) : W.cell? ⟨g, 0, none⟩ = some (.slice A0 f0.length c0) := (blk_cell h 0).trans rfl
theorem cellS44_1 {W : World} {g : Nat} {A0 : Option Addr} {c0 : Nat} {f0 : List Int} {f1 : Int} (h : W.heap[g]? = some (.cells #[.slice A0 f0.length c0, .int .i64 f1] 44 (0, 0))) : W.cell? ⟨g, 1, none⟩ = some (.int .i64 f1) := (blk_cell h 1).trans rfl
theorem IsS44.set_1 {w0 W : World} {g : Nat} {f0 : List Int} {f1 : Int} (h : IsS44 w0 W g f0 f1) (x : Int) : IsS44 w0 (W.setCell ⟨g, 1, none⟩ (.int .i64 x)) g f0 x := by
 obtain ⟨A0, c0, hb, hg, hr0⟩ := h
 exact ⟨A0, c0, by simpa using blk_set hb 1 (.int .i64 x), hg, hr0⟩
theorem IsS44.new (w0 W : World) (A0 : Option Addr) (c0 : Nat) (f0 : List Int) (f1 : Int) (hB : Below w0.heap.size w0 W) (hr0 : Kd.C (Kd.int .i64) w0 A0 f0.length f0) : IsS44 w0 (W.alloc (.cells #[.slice A0 f0.length c0, .int .i64 f1] 44)) W.heap.size f0 f1 := ⟨A0, c0, by simpa using heap_alloc_new W _, hB.size, hr0⟩
def trustquorummake_New.f (l0 : List Int) : Option (List Int × Int) := if 0 ≤ (mn (l0.length : Int) 400) then (if (mn (l0.length : Int) 400) ≤ (l0.length : Int) then (some (l0.take ((mn (l0.length : Int) 400) : Int).toNat, 0)) else (none)) else (none)
set_option maxHeartbeats 8000000 in
set_option maxRecDepth 100000 in
theorem trustquorummake_New.calls (A0 : Option Addr) (c0 : Nat) (l0 : List Int) (r1 : List Int) (r2 : Int) (w0 w : World) (hB : Below w0.heap.size w0 w) (hr0 : Kd.C (Kd.int .i64) w0 A0 l0.length l0) (hc0 : l0.length ≤ c0) (h : trustquorummake_New.f l0 = some (r1, r2)) :
 Calls Try.prog 6 #[.slice A0 l0.length c0] w fun e w' => ∃ g_ : Nat, e = .returned (.pointer (some ⟨g_, 0, none⟩)) ∧ IsS44 w0 w' g_ r1 r2 ∧ Below w0.heap.size w0 w' ∧ Below w.heap.size w w' := by
 have hu44 := Try.underlying44
 have HR0 := Aside0.mk hr0
 have HC0 := Aside0.mk hc0
 clear hr0 hc0
 have HBW := Aside0.mk (Below.refl w.heap.size w)
 have HW0 := Aside0.mk hB.size
 have HB := Aside0.mk hB
 clear hB
 have H : (if 0 ≤ (mn (l0.length : Int) 400) then (if (mn (l0.length : Int) 400) ≤ (l0.length : Int) then (some (l0.take ((mn (l0.length : Int) 400) : Int).toNat, 0)) else (none)) else (none)) = some (r1, r2) := h
 clear h
 obtain ⟨ji2, hji2⟩ : ∃ j_ : Int, (mn (l0.length : Int) 400) = j_ := ⟨_, rfl⟩
 replace H : (if 0 ≤ (ji2) then (if (ji2) ≤ (l0.length : Int) then (some (l0.take ((ji2) : Int).toNat, 0)) else (none)) else (none)) = some (r1, r2) := by first | (rw [hji2] at H; exact H) | (simp only [hji2] at H ⊢; exact H)
 (try (have hji2h : ji2 ≤ 400 := by (rw [← hji2]; unfold mn; (repeat' split) <;> omega)))
 (try (have hji2g : ji2 ≤ 64 := by omega))
 (try (have hji2l : 0 ≤ ji2 := by (rw [← hji2]; unfold mn; (repeat' split) <;> omega)))
 (try (have hji2m : 0 ≤ ji2 := by omega))
 have hji2_ : (if 400 < (l0.length : Int) then 400 else (l0.length : Int)) = ji2 := hji2
 by_cases c3 : 0 ≤ (ji2)
 ·rw [if_pos c3] at H
  have c3b0 := eq_true c3
  have c3b1 : decide (0 ≤ (ji2)) = true := decide_eq_true c3
  clear c3
  by_cases c4 : (ji2) ≤ (l0.length : Int)
  ·rw [if_pos c4] at H
   have c4b0 := eq_true c4
   have c4b1 : decide ((ji2) ≤ (l0.length : Int)) = true := decide_eq_true c4
   clear c4
   simp only [Option.some.injEq, Prod.mk.injEq] at H
   obtain ⟨rfl, rfl⟩ := H
   obtain ⟨i05, hi05, _, hsz5, _⟩ := info_parts info3
   obtain ⟨hcut5, hA5, hC5⟩ := print_take_of (P := Try.prog) (Value.int .i64) 0 22 3 .i64 Try.underlying22 hi05 hsz5 A0 c0 l0 (ji2) (of_decide_eq_true (by first | (with_reducible assumption) | assumption)) (of_decide_eq_true (by first | (with_reducible assumption) | assumption)) HC0.out
   have HR101 := Aside0.mk (Kd.C_of_reads (h1 := fun _ => rfl) (hA5 _ (Kd.reads_of_C HR0.out)))
   have HC101 := Aside0.mk hC5
   clear hA5 hC5 hi05 hsz5
   go_enter Try.func6, Try.ntmps6
   go_wp2_with (first | ((with_reducible refine gate_dst (N := 9) rfl ?_); refine box_event ?hg (N := 9) ?hd (cs := #[.slice A0 (l0.take ((ji2) : Int).toNat).length c0, .int .i64 0]) (t := 44) ?hr ?_; (case hd => rfl); (case hg => rfl); (case hr => first | (go_simp; done) | (go_simp; rfl)); intro gb102 hg w6 hbox hb; replace HB := bs HB hb; have BK102 := Aside0.mk (hbox); have GW102 := Aside0.mk ((by rw [hg]; exact (below_size (bB HBW)) : w.heap.size ≤ gb102)); have GE102 := Aside0.mk ((Nat.le_trans HW0.out (by rw [hg]; exact (below_size (bB HBW)) : w.heap.size ≤ gb102) : w0.heap.size ≤ gb102)); replace HBW := Aside0.mk (below_step HBW.out hb); clear hb hbox hg))
   go_ret
   exact ⟨_, rfl, (show IsS44 w0 _ gb102 (l0.take ((ji2) : Int).toNat) 0 from ⟨_, _, bU BK102, GE102.out, HR101.out⟩), bB HB, by repeat (first | (with_reducible first | exact HBW.out | apply below_alloc | apply pw_below_drewN | apply below_drew1 | refine below_set ?_ GW102.out) | exact HBW.out)⟩
  ·rw [if_neg c4] at H
   exact absurd H (by simp)
 ·rw [if_neg c3] at H
  exact absurd H (by simp)
def trustquorummake_Tape_N.f (s0_0 : List Int) (s0_1 : Int) (a1 : Int) : Option (Int × Int) := if s0_1 ≥ (s0_0.length : Int) then (some (0, s0_1)) else (if 0 ≤ s0_1 then (if s0_1 < (s0_0.length : Int) then (if a1 = 0 then (none) else (if (Int.tmod (rd s0_0 s0_1) a1) < 0 then (some (wrap64 ((Int.tmod (rd s0_0 s0_1) a1) + a1), wrap64 (s0_1 + 1))) else (some (Int.tmod (rd s0_0 s0_1) a1, wrap64 (s0_1 + 1))))) else (none)) else (none))
set_option maxHeartbeats 8000000 in
set_option maxRecDepth 100000 in
theorem trustquorummake_Tape_N.calls (g : Nat) (s0_0 : List Int) (s0_1 : Int) (a1 : Int) (r1 : Int) (r2 : Int) (w0 w : World) (hI : IsS44 w0 w g s0_0 s0_1) (hB : Below w0.heap.size w0 w) (h : trustquorummake_Tape_N.f s0_0 s0_1 a1 = some (r1, r2)) :
 Calls Try.prog 10 #[.pointer (some ⟨g, 0, none⟩), .int .i64 a1] w fun e w' => e = .returned (.int .i64 r1) ∧ IsS44 w0 w' g s0_0 r2 ∧ Below w0.heap.size w0 w' ∧ KeepBut w w' g none := by
 have HI0 := Aside0.mk hI
 have HK := Aside0.mk (KeepBut.refl w g none)
 have HL := Aside0.mk hB.size
 clear hI
 have HW0 := Aside0.mk hB.size
 have HB := Aside0.mk hB
 clear hB
 have H : (if s0_1 ≥ (s0_0.length : Int) then (some (0, s0_1)) else (if 0 ≤ s0_1 then (if s0_1 < (s0_0.length : Int) then (if a1 = 0 then (none) else (if (Int.tmod (rd s0_0 s0_1) a1) < 0 then (some (wrap64 ((Int.tmod (rd s0_0 s0_1) a1) + a1), wrap64 (s0_1 + 1))) else (some (Int.tmod (rd s0_0 s0_1) a1, wrap64 (s0_1 + 1))))) else (none)) else (none))) = some (r1, r2) := h
 clear h
 by_cases c3 : s0_1 ≥ (s0_0.length : Int)
 ·rw [if_pos c3] at H
  have c3b0 : decide ((s0_0.length : Int) ≤ s0_1) = true := decide_eq_true c3
  clear c3
  simp only [Option.some.injEq, Prod.mk.injEq] at H
  obtain ⟨rfl, rfl⟩ := H
  obtain ⟨ASz4_0, cSz4_0, HGz4, hgz4, HSz4_0⟩ := HI0.out
  have hcz4_0 := cellS44_0 HGz4
  have hcz4_1 := cellS44_1 HGz4
  have hfz4_1 := blk_frozen HGz4 1
  clear HGz4 hgz4
  go_enter Try.func10, Try.ntmps10
  go_wp2
  repeat (go_quiet (fail); try go_wp2)
  go_ret
  exact ⟨by first | rfl | (simp [errW_none, errW_some] <;> rfl) | (simp [*, errW_none, errW_some] <;> rfl), iU HI0, bB HB, kU HK⟩
 ·rw [if_neg c3] at H
  have c3b0 : decide ((s0_0.length : Int) ≤ s0_1) = false := decide_eq_false c3
  clear c3
  by_cases c5 : 0 ≤ s0_1
  ·rw [if_pos c5] at H
   have c5b0 : decide (0 ≤ s0_1) = true := decide_eq_true c5
   clear c5
   by_cases c6 : s0_1 < (s0_0.length : Int)
   ·rw [if_pos c6] at H
    have c6b0 : decide (s0_1 < (s0_0.length : Int)) = true := decide_eq_true c6
    clear c6
    by_cases c7 : a1 = 0
    ·rw [if_pos c7] at H
     exact absurd H (by simp)
    ·rw [if_neg c7] at H
     have c7b0 : (a1 == 0) = false := beq_eq_false_iff_ne.mpr c7
     have c7b1 : (a1 != 0) = true := bne_iff_ne.mpr c7
     by_cases c8 : (Int.tmod (rd s0_0 s0_1) a1) < 0
     ·rw [if_pos c8] at H
      have c8b0 : decide ((Int.tmod (rd s0_0 s0_1) a1) < 0) = true := decide_eq_true c8
      clear c8
      simp only [Option.some.injEq, Prod.mk.injEq] at H
      obtain ⟨rfl, rfl⟩ := H
      obtain ⟨ASz9_0, cSz9_0, HGz9, hgz9, HSz9_0⟩ := HI0.out
      have hcz9_0 := cellS44_0 HGz9
      have hcz9_1 := cellS44_1 HGz9
      have hfz9_1 := blk_frozen HGz9 1
      clear HGz9 hgz9
      have p103 : 0 ≤ (s0_1 : Int) := of_decide_eq_true (by first | (with_reducible assumption) | assumption)
      have q103 : s0_1 < (s0_0.length : Int) := of_decide_eq_true (by first | (with_reducible assumption) | assumption)
      obtain ⟨ad103, e103, hx103_0⟩ := Kd.at_int HSz9_0 s0_1 p103 q103
      cases e103
      replace hx103_0 := pw_cell_below HB.out hx103_0
      replace p103 := eq_true p103
      replace q103 := eq_true q103
      go_enter Try.func10, Try.ntmps10
      go_wp2
      repeat (go_quiet (fail); try go_wp2)
      go_ret
      exact ⟨by first | rfl | (simp [errW_none, errW_some] <;> rfl) | (simp [*, errW_none, errW_some] <;> rfl), iU HI0, bB HB, kU HK⟩
     ·rw [if_neg c8] at H
      have c8b0 : decide ((Int.tmod (rd s0_0 s0_1) a1) < 0) = false := decide_eq_false c8
      clear c8
      simp only [Option.some.injEq, Prod.mk.injEq] at H
      obtain ⟨rfl, rfl⟩ := H
      obtain ⟨ASz10_0, cSz10_0, HGz10, hgz10, HSz10_0⟩ := HI0.out
      have hcz10_0 := cellS44_0 HGz10
      have hcz10_1 := cellS44_1 HGz10
      have hfz10_1 := blk_frozen HGz10 1
      clear HGz10 hgz10
      have p103 : 0 ≤ (s0_1 : Int) := of_decide_eq_true (by first | (with_reducible assumption) | assumption)
      have q103 : s0_1 < (s0_0.length : Int) := of_decide_eq_true (by first | (with_reducible assumption) | assumption)
      obtain ⟨ad103, e103, hx103_0⟩ := Kd.at_int HSz10_0 s0_1 p103 q103
      cases e103
      replace hx103_0 := pw_cell_below HB.out hx103_0
      replace p103 := eq_true p103
      replace q103 := eq_true q103
      go_enter Try.func10, Try.ntmps10
      go_wp2
      repeat (go_quiet (fail); try go_wp2)
      go_ret
      exact ⟨by first | rfl | (simp [errW_none, errW_some] <;> rfl) | (simp [*, errW_none, errW_some] <;> rfl), iU HI0, bB HB, kU HK⟩
   ·rw [if_neg c6] at H
    exact absurd H (by simp)
  ·rw [if_neg c5] at H
   exact absurd H (by simp)
def trustquorummake_Tape_Range.f (s0_0 : List Int) (s0_1 : Int) (a1 : Int) (a2 : Int) : Option (Int × Int) := (trustquorummake_Tape_N.f s0_0 s0_1 (wrap64 ((wrap64 (a2 - a1)) + 1))).bind fun bt104 => (some (wrap64 (a1 + bt104.1), bt104.2))
set_option maxHeartbeats 8000000 in
set_option maxRecDepth 100000 in
theorem trustquorummake_Tape_Range.calls (g : Nat) (s0_0 : List Int) (s0_1 : Int) (a1 : Int) (a2 : Int) (r1 : Int) (r2 : Int) (w0 w : World) (hI : IsS44 w0 w g s0_0 s0_1) (hB : Below w0.heap.size w0 w) (h : trustquorummake_Tape_Range.f s0_0 s0_1 a1 a2 = some (r1, r2)) :
 Calls Try.prog 8 #[.pointer (some ⟨g, 0, none⟩), .int .i64 a1, .int .i64 a2] w fun e w' => e = .returned (.int .i64 r1) ∧ IsS44 w0 w' g s0_0 r2 ∧ Below w0.heap.size w0 w' ∧ KeepBut w w' g none := by
 have HI0 := Aside0.mk hI
 have HK := Aside0.mk (KeepBut.refl w g none)
 have HL := Aside0.mk hB.size
 clear hI
 have HW0 := Aside0.mk hB.size
 have HB := Aside0.mk hB
 clear hB
 have H : ((trustquorummake_Tape_N.f s0_0 s0_1 (wrap64 ((wrap64 (a2 - a1)) + 1))).bind fun bt104 => (some (wrap64 (a1 + bt104.1), bt104.2))) = some (r1, r2) := h
 clear h
 replace H := Option.bind_eq_some_iff.mp H
 obtain ⟨⟨t104, t105⟩, A40, H⟩ := H
 replace H : (some (wrap64 (a1 + t104), t105)) = some (r1, r2) := H
 have A4 := Aside0.mk A40
 clear A40
 simp only [Option.some.injEq, Prod.mk.injEq] at H
 obtain ⟨rfl, rfl⟩ := H
 go_enter Try.func8, Try.ntmps8
 go_wp2_with (first | ((with_reducible refine gate_callee (f := 10) rfl ?_); refine goesA_ (some 13) rfl rfl Try.func10 rfl #[.pointer (some ⟨g, 0, none⟩), .int .i64 (wrap64 ((wrap64 (a2 - a1)) + 1))] rfl ?_; (with_reducible refine (trustquorummake_Tape_N.calls g s0_0 s0_1 (wrap64 ((wrap64 (a2 - a1)) + 1)) t104 t105 w0 _ ?side1 ?side2 A4.out).mono ?_); (case side1 => exact iU HI0); (case side2 => exact bB HB); rintro e w5 ⟨rfl, hi, hb, hk⟩; refine ⟨_, rfl, ?_⟩; replace HK := Aside0.mk (KeepBut.trans (kU HK) hk (.inl rfl)); replace HB := Aside0.mk (hb); replace HI0 := Aside0.mk (hi); (try clear hb); (try clear hb2); (try clear hk); (try clear hi)))
 go_ret
 exact ⟨by first | rfl | (simp [errW_none, errW_some] <;> rfl) | (simp [*, errW_none, errW_some] <;> rfl), iU HI0, bB HB, kU HK⟩
mutual
def trustquorummake_Tape_Order.l0 : Nat → Int → List Int → Int → List Int → Int → Option (List Int × Int)
 | 0, _, _, _, _, _ => none
 | k + 1, x1, x5, x6, x1000, x1001 => if x6 < x1 then (if x5.length < 17592186044416 then (trustquorummake_Tape_Order.l0 k x1 (x5 ++ [x6]) (wrap64 (x6 + 1)) x1000 x1001) else (none)) else (trustquorummake_Tape_Order.l1 k x5 (wrap64 (x1 - 1)) x1000 x1001)
def trustquorummake_Tape_Order.l1 : Nat → List Int → Int → List Int → Int → Option (List Int × Int)
 | 0, _, _, _, _ => none
 | k + 1, x5, x7, x1000, x1001 => if x7 > 0 then ((trustquorummake_Tape_N.f x1000 x1001 (wrap64 (x7 + 1))).bind fun bt109 => (if 0 ≤ bt109.1 then (if bt109.1 < (x5.length : Int) then (if 0 ≤ x7 then (if x7 < (x5.length : Int) then (trustquorummake_Tape_Order.l1 k ((x5.set (x7 : Int).toNat (rd x5 bt109.1)).set (bt109.1 : Int).toNat (rd x5 x7)) (wrap64 (x7 - 1)) x1000 bt109.2) else (none)) else (none)) else (none)) else (none))) else (some (x5, x1001))
end
def trustquorummake_Tape_Order.f (k : Nat) (s0_0 : List Int) (s0_1 : Int) (a1 : Int) : Option (List Int × Int) := trustquorummake_Tape_Order.l0 k a1 ([] : List Int) 0 s0_0 s0_1
def trustquorummake_Tape_Order.T10 : Bool × List (List Nat × List Nat) := (true, [([], []), ([], []), ([], []), ([], []), ([], []), ([], []), ([4, 5], [4, 5]), ([6], [6]), ([], []), ([], []), ([8, 9], [8, 9]), ([10], [10]), ([0, 1, 0, 1, 4, 5, 6, 7, 11], [0, 1]), ([12, 7, 0, 1, 4, 5, 6, 7, 11], [7, 12]), ([2, 3, 0, 1, 2, 3, 4, 5, 6, 7, 8, 9, 10, 11, 12, 13], [2, 3]), ([14, 11, 13, 0, 1, 2, 3, 4, 5, 6, 7, 8, 9, 10, 11, 12, 13], [11, 14])])
def trustquorummake_Tape_Order.B10 : List Nat := [0, 0, 0, 0, 0, 0, 48, 112, 0, 0, 768, 1792, 4083, 8179, 16383, 32767]
theorem trustquorummake_Tape_Order.tab10 : rtab .any (opsOf Try.f36 10) = trustquorummake_Tape_Order.T10 := by kernel_rfl
theorem trustquorummake_Tape_Order.bits10 : waitsOk trustquorummake_Tape_Order.T10.2 trustquorummake_Tape_Order.B10 = true := by kernel_rfl
set_option maxHeartbeats 8000000 in
set_option maxRecDepth 100000 in
theorem trustquorummake_Tape_Order.calls (k : Nat) (g : Nat) (s0_0 : List Int) (s0_1 : Int) (a1 : Int) (r1 : List Int) (r2 : Int) (w0 w : World) (hI : IsS44 w0 w g s0_0 s0_1) (hB : Below w0.heap.size w0 w) (h : trustquorummake_Tape_Order.f k s0_0 s0_1 a1 = some (r1, r2)) :
 Calls Try.prog 36 #[.pointer (some ⟨g, 0, none⟩), .int .i64 a1] w fun e w' => ∃ v0_ : Value, e = .returned (v0_) ∧ Kd.R (Kd.int .i64) 3 w' w.heap.size (fun _ => True) v0_ r1 ∧ IsS44 w0 w' g s0_0 r2 ∧ Below w0.heap.size w0 w' ∧ KeepBut w w' g none := by
 have HI0 := Aside0.mk hI
 have HK := Aside0.mk (KeepBut.refl w g none)
 have HL := Aside0.mk hB.size
 clear hI
 have HW0 := Aside0.mk hB.size
 have HB := Aside0.mk hB
 clear hB
 have H : (trustquorummake_Tape_Order.l0 k a1 ([] : List Int) 0 s0_0 s0_1) = some (r1, r2) := h
 clear h
 have H' := Aside0.mk H
 clear H
 go_enter Try.func36, Try.ntmps36
 go_wp2
 go_loopg [5, 6] k (fun kq v5 v6 w' => ∃ (x5_1 : List Int) (x6_1 : Int), v6 = .int .i64 x6_1 ∧ Aside0 (trustquorummake_Tape_Order.l0 kq a1 x5_1 x6_1 s0_0 s0_1 = some (r1, r2)) ∧ Aside0 (kq ≤ k) ∧ Aside0 (Kd.R (Kd.int .i64) 3 w' w.heap.size (fun _ => True) v5 x5_1) ∧ Aside0 (IsS44 w0 w' g s0_0 s0_1) ∧ Aside0 (KeepBut w w' g none) ∧ Aside0 (Below w0.heap.size w0 w'))
 case atStart => exact ⟨(([] : List Int)), (0), (by first | rfl | (simp; done) | (simp [*]; done)), H', ⟨Nat.le_refl _⟩, ⟨by first | exact Kd.R_nil _ _ _ _ _ | exact Kd.N_nil _ _ _ _ _ | exact Kd.V_nil _ _ _ _ _ | exact Kd.Q_nil _ _ _ _ _ | exact Kd.S_nil _ _ _ _ _⟩, ⟨iU HI0⟩, ⟨kU HK⟩, ⟨bB HB⟩⟩
 case round =>
  clear H'
  try clear p2
  obtain ⟨x5_1, x6_1, rfl, HA, HK1, HO_5, HI0, HK, HB⟩ := hrel
  cases gk with
  | zero => exact absurd HA.out (by simp [trustquorummake_Tape_Order.l0])
  | succ k1 =>
   have H := HA.out
   clear HA
   simp only [trustquorummake_Tape_Order.l0] at H
   by_cases c3 : x6_1 < a1
   ·rw [if_pos c3] at H
    have c3b0 : decide (x6_1 < a1) = true := decide_eq_true c3
    clear c3
    by_cases c4 : x5_1.length < 17592186044416
    ·rw [if_pos c4] at H
     have LMc4 := Aside0.mk c4
     clear c4
     obtain ⟨y106, hy106⟩ : ∃ y_ : List Int, y_ = (x5_1 ++ [x6_1]) := ⟨_, rfl⟩
     replace H : (trustquorummake_Tape_Order.l0 k1 a1 y106 (wrap64 (x6_1 + 1)) s0_0 s0_1) = some (r1, r2) := by first | (rw [hy106]; with_reducible exact H) | (have H2_ := (Option.bind_some _ _).symm.trans H; rw [hy106]; with_reducible exact H2_) | (have H2_ := (Option.bind_some _ _).symm.trans H; with_reducible exact H2_) | with_reducible exact H | (rw [hy106]; exact H) | exact H
     have Ny106 := Aside0.mk hy106
     clear hy106
     have H' := Aside0.mk H
     clear H
     go_wp2_with (first | ((with_reducible refine gate_builtin (b := .append) (xs := #[.tmp 14, .tmp 16]) rfl ?_); at_builtin; refine Kd.R_append (Kd.int .i64) w.heap.size rfl (.tmp 14) (.tmp 16) 22 3 (.int .i64 0) 8 rfl Try.underlying22 info3 rfl (by decide) (by omega) u5 x5_1 x6_1 [.int .i64 x6_1] (fun _ => True) (fun _ => False) rfl rfl ?aP (fun _ hk => hk.elim) ?aF ?aO (Below.refl _ _) ?aS ?aL ?_; (case aP => exact rfl); (case aF => exact (fun _ _ => trivial)); (case aO => exact (Kd.uR HO_5)); (case aS => exact (keep_size (w := w) (g := g) (row := none) (kU HK))); (case aL => have := LMc4.out; omega); intro v107 w5 ho hb hg hat; rw [← Ny106.out] at ho; replace HI0 := Aside0.mk (IsS44.grown (iU HI0) hg (IsS44.own_ne HI0.out HO_5.out (by decide))); replace HB := Aside0.mk (below_weaken (bB HB) HL.out hb); replace HK := Aside0.mk (KeepBut.trans (kU HK) (KeepBut.of_grown hg g) (Kd.R_base2 HO_5.out)); have HO108 := Aside0.mk (ho); clear HO_5; clear ho hb hg hat))
     go_roundg k1
     case measure => have := HK1.out; omega
     case rel => exact ⟨(y106), (wrap64 (x6_1 + 1)), (by first | rfl | (simp; done) | (simp [*]; done)), H', ⟨by have := HK1.out; omega⟩, ⟨Kd.uR HO108⟩, ⟨iU HI0⟩, ⟨kU HK⟩, ⟨bB HB⟩⟩
    ·rw [if_neg c4] at H
     exact absurd H (by simp)
   ·rw [if_neg c3] at H
    have c3b0 : decide (x6_1 < a1) = false := decide_eq_false c3
    clear c3
    have H' := Aside0.mk H
    clear H
    go_wp2
    go_loopg [7] k1 (fun kq v7 w' => ∃ (x5_2 : List Int) (x7_2 : Int) (x1001_2 : Int), v7 = .int .i64 x7_2 ∧ Aside0 (trustquorummake_Tape_Order.l1 kq x5_2 x7_2 s0_0 x1001_2 = some (r1, r2)) ∧ Aside0 (kq ≤ k1) ∧ Aside0 (Kd.R (Kd.int .i64) 3 w' w.heap.size (fun _ => True) u5 x5_2) ∧ Aside0 (IsS44 w0 w' g s0_0 x1001_2) ∧ Aside0 (KeepBut w w' g none) ∧ Aside0 (Below w0.heap.size w0 w'))
    case atStart => exact ⟨(x5_1), (wrap64 (a1 - 1)), (s0_1), (by first | rfl | (simp; done) | (simp [*]; done)), H', ⟨Nat.le_refl _⟩, ⟨Kd.uR HO_5⟩, ⟨iU HI0⟩, ⟨kU HK⟩, ⟨bB HB⟩⟩
    case round =>
     clear H'
     try clear p2
     try clear c3
     try clear c3b0
     try clear c4
     try clear p2
     obtain ⟨x5_2, x7_2, x1001_2, rfl, HA, HK2, HO_5, HI0, HK, HB⟩ := hrel
     cases gk with
     | zero => exact absurd HA.out (by simp [trustquorummake_Tape_Order.l1])
     | succ k2 =>
      have H := HA.out
      clear HA
      simp only [trustquorummake_Tape_Order.l1] at H
      by_cases c6 : x7_2 > 0
      ·rw [if_pos c6] at H
       have c6b0 : decide (0 < x7_2) = true := decide_eq_true c6
       clear c6
       replace H := Option.bind_eq_some_iff.mp H
       obtain ⟨⟨t109, t110⟩, A70, H⟩ := H
       replace H : (if 0 ≤ t109 then (if t109 < (x5_2.length : Int) then (if 0 ≤ x7_2 then (if x7_2 < (x5_2.length : Int) then (trustquorummake_Tape_Order.l1 k2 ((x5_2.set (x7_2 : Int).toNat (rd x5_2 t109)).set (t109 : Int).toNat (rd x5_2 x7_2)) (wrap64 (x7_2 - 1)) s0_0 t110) else (none)) else (none)) else (none)) else (none)) = some (r1, r2) := H
       have A7 := Aside0.mk A70
       clear A70
       by_cases c8 : 0 ≤ t109
       ·rw [if_pos c8] at H
        have c8b0 : decide (0 ≤ t109) = true := decide_eq_true c8
        clear c8
        by_cases c9 : t109 < (x5_2.length : Int)
        ·rw [if_pos c9] at H
         have c9b0 : decide (t109 < (x5_2.length : Int)) = true := decide_eq_true c9
         clear c9
         by_cases c10 : 0 ≤ x7_2
         ·rw [if_pos c10] at H
          have c10b0 : decide (0 ≤ x7_2) = true := decide_eq_true c10
          clear c10
          by_cases c11 : x7_2 < (x5_2.length : Int)
          ·rw [if_pos c11] at H
           have c11b0 : decide (x7_2 < (x5_2.length : Int)) = true := decide_eq_true c11
           clear c11
           obtain ⟨y113, hy113⟩ : ∃ y_ : List Int, y_ = (x5_2.set (x7_2 : Int).toNat (rd x5_2 t109)) := ⟨_, rfl⟩
           replace H : (trustquorummake_Tape_Order.l1 k2 (y113.set (t109 : Int).toNat (rd x5_2 x7_2)) (wrap64 (x7_2 - 1)) s0_0 t110) = some (r1, r2) := by first | (rw [hy113]; with_reducible exact H) | (have H2_ := (Option.bind_some _ _).symm.trans H; rw [hy113]; with_reducible exact H2_) | (have H2_ := (Option.bind_some _ _).symm.trans H; with_reducible exact H2_) | with_reducible exact H | (rw [hy113]; exact H) | exact H
           have Ny113 := Aside0.mk hy113
           clear hy113
           obtain ⟨y114, hy114⟩ : ∃ y_ : List Int, y_ = (y113.set (t109 : Int).toNat (rd x5_2 x7_2)) := ⟨_, rfl⟩
           replace H : (trustquorummake_Tape_Order.l1 k2 y114 (wrap64 (x7_2 - 1)) s0_0 t110) = some (r1, r2) := by first | (rw [hy114]; with_reducible exact H) | (have H2_ := (Option.bind_some _ _).symm.trans H; rw [hy114]; with_reducible exact H2_) | (have H2_ := (Option.bind_some _ _).symm.trans H; with_reducible exact H2_) | with_reducible exact H | (rw [hy114]; exact H) | exact H
           have Ny114 := Aside0.mk hy114
           clear hy114
           have H' := Aside0.mk H
           clear H
           try go_wp2_with (first | ((with_reducible refine gate_callee (f := 10) rfl ?_); refine goesA_ (some 27) rfl rfl Try.func10 rfl #[.pointer (some ⟨g, 0, none⟩), .int .i64 (wrap64 (x7_2 + 1))] rfl ?_; (with_reducible refine (trustquorummake_Tape_N.calls g s0_0 x1001_2 (wrap64 (x7_2 + 1)) t109 t110 w0 _ ?side1 ?side2 A7.out).mono ?_); (case side1 => exact iU HI0); (case side2 => exact bB HB); rintro e w14 ⟨rfl, hi, hb, hk⟩; refine ⟨_, rfl, ?_⟩; replace HO_5 := Aside0.mk (Kd.R_mono (Kd.R_keep (IsS44.apart (show IsS44 w0 _ g s0_0 x1001_2 from iU HI0) (Kd.uR HO_5) (by decide)) hk (fun _ h => h.2)) (fun _ h => h.1)); replace HK := Aside0.mk (KeepBut.trans (kU HK) hk (.inl rfl)); replace HB := Aside0.mk (hb); replace HI0 := Aside0.mk (hi); (try clear hb); (try clear hb2); (try clear hk); (try clear hi)))
           replace HO_5 := Aside0.mk (Kd.R_drew HO_5.out)
           replace HI0 := Aside0.mk (IsS44.drew HI0.out)
           replace HK := Aside0.mk (keep_drew HK.out)
           replace HB := Aside0.mk (below_drew1 HB.out)
           obtain ⟨Ao16, co16, eo16⟩ := Kd.R_slice HO_5.out
           (first | subst eo16 | (injection eo16 with f1_ f2_ f3_; have f4_ := f1_.symm; have f5_ := f3_.symm; clear f1_ f2_ f3_; subst f4_; subst f5_))
           have p111 : 0 ≤ (t109 : Int) := of_decide_eq_true (by first | (with_reducible assumption) | assumption)
           have q111 : t109 < (x5_2.length : Int) := of_decide_eq_true (by first | (with_reducible assumption) | assumption)
           obtain ⟨ad111, e111, hx111_0⟩ := Kd.at_int (Kd.R_reads' HO_5.out).2.2 t109 p111 q111
           cases e111
           replace p111 := eq_true p111
           replace q111 := eq_true q111
           have p112 : 0 ≤ (x7_2 : Int) := of_decide_eq_true (by first | (with_reducible assumption) | assumption)
           have q112 : x7_2 < (x5_2.length : Int) := of_decide_eq_true (by first | (with_reducible assumption) | assumption)
           obtain ⟨ad112, e112, hx112_0⟩ := Kd.at_int (Kd.R_reads' HO_5.out).2.2 x7_2 p112 q112
           obtain rfl : ad111 = ad112 := (by injection e112)
           replace p112 := eq_true p112
           replace q112 := eq_true q112
           have p12 : 0 ≤ (x7_2 : Int) := of_decide_eq_true (by first | (with_reducible assumption) | assumption)
           have q12 : (x7_2 : Int) < ((x5_2.length : Int) : Int) := of_decide_eq_true (by first | (with_reducible assumption) | assumption)
           obtain ⟨go12, co12, eo12, gb12, gl12, cl12, HG12⟩ := Kd.R_form HO_5.out (by omega)
           (first | cases eo12 | (injection eo12 with ea_ en_ ec_; (first | subst ea_ | (injection ea_ with ea_; subst ea_)); subst ec_; clear en_))
           have GB12 := Aside0.mk gb12
           have GG12 := Aside0.mk HG12
           clear gb12 gl12 HG12
           (first | simp only [add_plain] at hx111_0 | skip)
           (first | simp only [add_plain] at hx112_0 | skip)
           obtain ⟨hx12_0, hf12_0⟩ := Kd.R_celln 0 HO_5.out (x7_2 : Int) p12 q12
           replace p12 := eq_true p12
           replace q12 := eq_true q12
           have HN0_go12 := Aside0.mk (show g ≠ go12 from by have h_ := IsS44.own_ne HI0.out HO_5.out (by decide); intro e_; exact h_ (by rw [e_]; rfl))
           have HP17 := Kd.R_putn HO_5.out (x7_2 : Int) (rd x5_2 t109)
           rw [← Ny113.out] at HP17
           have HQ17 := Aside0.mk HP17
           clear HP17
           have p13 : 0 ≤ (t109 : Int) := of_decide_eq_true (by first | (with_reducible assumption) | assumption)
           have q13 : (t109 : Int) < ((x5_2.length : Int) : Int) := of_decide_eq_true (by first | (with_reducible assumption) | assumption)
           obtain ⟨hx13_0, hf13_0⟩ := Kd.R_celln 0 HQ17.out (t109 : Int) p13 q13
           replace p13 := eq_true p13
           replace q13 := eq_true q13
           have HN0_go12 := Aside0.mk (show g ≠ go12 from by have h_ := IsS44.own_ne HI0.out HO_5.out (by decide); intro e_; exact h_ (by rw [e_]; rfl))
           have HP18 := Kd.R_putn HQ17.out (t109 : Int) (rd x5_2 x7_2)
           rw [← Ny114.out] at HP18
           have HQ18 := Aside0.mk HP18
           clear HP18
           refine start_ (n := 16) (S := fun w' => w'.cell? ⟨go12, (t109).toNat, none⟩ = some (.int .i64 (rd x5_2 t109)) ∧ w'.cell? ⟨go12, (x7_2).toNat, none⟩ = some (.int .i64 (rd x5_2 x7_2))) (ds := [13, 15]) #[false, false, false, false, false, false, false, false, false, false, false, false, false, false, false, false] (by kernel_rfl) rfl rfl ⟨hx111_0, hx112_0⟩ (fun hHeld => ?_); refine with_tabW trustquorummake_Tape_Order.tab10 trustquorummake_Tape_Order.bits10 (fun HT_ HW_ => ?_)
           generalize w14.drew = w15 at HO_5 HI0 HK HB GG12 HQ17 HQ18 hf12_0 hf13_0 hx111_0 hx112_0 hx12_0 hx13_0 hHeld ⊢
           refine pureA_ 0 28 HT_ ?_
           refine pureA_ 1 29 HT_ ?_
           refine pureA_ 2 30 HT_ ?_
           refine pureA_ 3 31 HT_ ?_
           refine pureA_ 4 32 HT_ ?_
           refine pureA_ 5 33 HT_ ?_
           refine pureA_ 6 34 HT_ ?_
           refine pureA_ 8 36 HT_ ?_
           refine pureA_ 9 37 HT_ ?_
           refine pureA_ 10 38 HT_ ?_
           refine takeA_ 7 35 HT_ HW_ hHeld ?_
           refine takeA_ 11 39 HT_ HW_ hHeld ?_
           refine pureA_ 12 40 HT_ ?_
           refine last_ (i := 13) (N := none) #[true, true, true, true, true, true, true, true, true, true, true, true, true, true, false, false] rfl rfl (one_of HT_.out (by kernel_rfl)) (by decide) (fun K hK => ?_)
           refine skip_ (w1 := ?_) (by rfl) rfl ?_ ?_
           rotate_left
           ·go_simp
            rfl
           refine hK.out _ _ ?_
           clear hK K
           refine pureA_ 14 41 HT_ ?_
           refine last_ (i := 15) (N := none) #[true, true, true, true, true, true, true, true, true, true, true, true, true, true, true, true] rfl rfl (one_of HT_.out (by kernel_rfl)) (by decide) (fun K hK => ?_)
           refine skip_ (w1 := ?_) (by rfl) rfl ?_ ?_
           rotate_left
           ·go_simp
            rfl
           refine hK.out _ _ ?_
           clear hK K
           refine done_ (done_of HT_.out (by kernel_rfl)) ?_
           try go_wp2
           go_roundg k2
           case measure => have := HK1.out; have := HK2.out; omega
           case rel => exact ⟨(y114), (wrap64 (x7_2 - 1)), (t110), (by first | rfl | (simp; done) | (simp [*]; done)), H', ⟨by have := HK1.out; have := HK2.out; omega⟩, ⟨Kd.uR HQ18⟩, ⟨by repeat (first | (with_reducible first | exact HI0.out | apply IsS44.alloc | apply IsS44.drewN | apply IsS44.drew | apply IsS44.set_1 | refine IsS44.far ?_ HN0_go12.out _ | refine IsS44.far ?_ HN0_go12.out _) | exact HI0.out)⟩, ⟨by repeat (first | (with_reducible first | exact HK.out | apply KeepBut.set_ | apply keep_drewN | apply keep_drew | apply keep_alloc | refine keep_far ?_ GB12.out _ | refine keep_far ?_ GB12.out _) | exact HK.out)⟩, ⟨by repeat (first | (with_reducible first | exact HB.out | apply below_alloc | apply pw_below_drewN | apply below_drew1 | refine below_set ?_ (Nat.le_trans HL.out GB12.out) | refine below_set ?_ (Nat.le_trans HL.out GB12.out) | refine below_set ?_ (IsS44.ge HI0.out)) | exact HB.out)⟩⟩
          ·rw [if_neg c11] at H
           exact absurd H (by simp)
         ·rw [if_neg c10] at H
          exact absurd H (by simp)
        ·rw [if_neg c9] at H
         exact absurd H (by simp)
       ·rw [if_neg c8] at H
        exact absurd H (by simp)
      ·rw [if_neg c6] at H
       have c6b0 : decide (0 < x7_2) = false := decide_eq_false c6
       clear c6
       simp only [Option.some.injEq, Prod.mk.injEq] at H
       obtain ⟨rfl, rfl⟩ := H
       go_wp2
       go_ret
       exact ⟨_, by first | rfl | (simp [errW_none, errW_some] <;> rfl) | (simp [*, errW_none, errW_some] <;> rfl), Kd.uR HO_5, iU HI0, bB HB, kU HK⟩
def trustquorummake_Tape_Pick.f (s0_0 : List Int) (s0_1 : Int) (l1 : List Int) : Option (Int × Int) := (trustquorummake_Tape_N.f s0_0 s0_1 (l1.length : Int)).bind fun bt115 => (if 0 ≤ bt115.1 then (if bt115.1 < (l1.length : Int) then (some (rd l1 bt115.1, bt115.2)) else (none)) else (none))
set_option maxHeartbeats 8000000 in
set_option maxRecDepth 100000 in
theorem trustquorummake_Tape_Pick.calls (g : Nat) (s0_0 : List Int) (s0_1 : Int) (A1 : Option Addr) (c1 : Nat) (l1 : List Int) (r1 : Int) (r2 : Int) (w0 w : World) (hI : IsS44 w0 w g s0_0 s0_1) (hB : Below w0.heap.size w0 w) (hr1 : Kd.C (Kd.int .i64) w A1 l1.length l1) (hc1 : l1.length ≤ c1) (hf1 : ∀ ad, A1 = some ad → 0 < l1.length → ad.block ≠ g) (h : trustquorummake_Tape_Pick.f s0_0 s0_1 l1 = some (r1, r2)) :
 Calls Try.prog 37 #[.pointer (some ⟨g, 0, none⟩), .slice A1 l1.length c1] w fun e w' => e = .returned (.int .i64 r1) ∧ IsS44 w0 w' g s0_0 r2 ∧ Below w0.heap.size w0 w' ∧ KeepBut w w' g none := by
 have HR1 := Aside0.mk hr1
 have HC1 := Aside0.mk hc1
 clear hr1 hc1
 have HI0 := Aside0.mk hI
 have HK := Aside0.mk (KeepBut.refl w g none)
 have HL := Aside0.mk hB.size
 clear hI
 have HW0 := Aside0.mk hB.size
 have HB := Aside0.mk hB
 clear hB
 have H : ((trustquorummake_Tape_N.f s0_0 s0_1 (l1.length : Int)).bind fun bt115 => (if 0 ≤ bt115.1 then (if bt115.1 < (l1.length : Int) then (some (rd l1 bt115.1, bt115.2)) else (none)) else (none))) = some (r1, r2) := h
 clear h
 replace H := Option.bind_eq_some_iff.mp H
 obtain ⟨⟨t115, t116⟩, A30, H⟩ := H
 replace H : (if 0 ≤ t115 then (if t115 < (l1.length : Int) then (some (rd l1 t115, t116)) else (none)) else (none)) = some (r1, r2) := H
 have A3 := Aside0.mk A30
 clear A30
 by_cases c4 : 0 ≤ t115
 ·rw [if_pos c4] at H
  have c4b0 : decide (0 ≤ t115) = true := decide_eq_true c4
  clear c4
  by_cases c5 : t115 < (l1.length : Int)
  ·rw [if_pos c5] at H
   have c5b0 : decide (t115 < (l1.length : Int)) = true := decide_eq_true c5
   clear c5
   simp only [Option.some.injEq, Prod.mk.injEq] at H
   obtain ⟨rfl, rfl⟩ := H
   go_enter Try.func37, Try.ntmps37
   go_wp2_with (first | ((with_reducible refine gate_callee (f := 10) rfl ?_); refine goesA_ (some 9) rfl rfl Try.func10 rfl #[.pointer (some ⟨g, 0, none⟩), .int .i64 (l1.length : Int)] rfl ?_; (with_reducible refine (trustquorummake_Tape_N.calls g s0_0 s0_1 (l1.length : Int) t115 t116 w0 _ ?side1 ?side2 A3.out).mono ?_); (case side1 => exact iU HI0); (case side2 => exact bB HB); rintro e w6 ⟨rfl, hi, hb, hk⟩; refine ⟨_, rfl, ?_⟩; replace HK := Aside0.mk (KeepBut.trans (kU HK) hk (.inl rfl)); replace HB := Aside0.mk (hb); replace HI0 := Aside0.mk (hi); (try clear hb); (try clear hb2); (try clear hk); (try clear hi); have p117 : 0 ≤ (t115 : Int) := of_decide_eq_true (by first | (with_reducible assumption) | assumption); have q117 : t115 < (l1.length : Int) := of_decide_eq_true (by first | (with_reducible assumption) | assumption); obtain ⟨ad117, e117, hx117_0⟩ := Kd.at_int HR1.out t115 p117 q117; cases e117; replace hx117_0 := keep_cell HK.out hx117_0 (by first | (rw [add_block]; exact hf1 _ rfl (by omega)) | exact hf1 _ rfl (by omega) | exact hf1 ad117 rfl (by omega)); replace p117 := eq_true p117; replace q117 := eq_true q117))
   go_ret
   exact ⟨by first | rfl | (simp [errW_none, errW_some] <;> rfl) | (simp [*, errW_none, errW_some] <;> rfl), iU HI0, bB HB, kU HK⟩
  ·rw [if_neg c5] at H
   exact absurd H (by simp)
 ·rw [if_neg c4] at H
  exact absurd H (by simp)
end Go.Proofs.Ytfkpimjiaijmgaa.G
end
section
namespace Go.Proofs.Ytfkpimjiaijmgaa.G
open Go.RowKit Go.Proofs.YtfkpimjiaijmgaaW.PrintWords Go.Proofs.YtfkpimjiaijmgaaW.PrintLast Go.Proofs.YtfkpimjiaijmgaaW.PrintMore
attribute [local go_sem] max2_int min2_int max_two min_two max_three min_three max_four min_four   -- for this text's walks alone
set_option linter.unusedVariables false
set_option linter.unusedSimpArgs false
mutual
def trustquorummake_trust.l0 : Nat → Int → Int → List Int → Int → Int → List Int → Int → Int → List Int → Option (Int × List Int × (List (S27)) × Int)
 | 0, _, _, _, _, _, _, _, _, _ => none
 | k + 1, x1, x2, x20, x21, x22, x1000, x1001, x120000, x120001 => if x22 < x21 then (if 0 ≤ x22 then (if x22 < (x20.length : Int) then (if x120001.length < 17592186044416 then (trustquorummake_trust.l0 k x1 x2 x20 x21 (wrap64 (x22 + 1)) x1000 x1001 x120000 (x120001 ++ [rd x20 x22])) else (none)) else (none)) else (none)) else (if x2 > 1 then ((trustquorummake_Tape_Pick.f x1000 x1001 (([0, 0, 1, 1, 2, 3] : List Int))).bind fun bt136 => (trustquorummake_trust.l1 k x1 x2 bt136.1 x1000 bt136.2 x120000 x120001 ([] : List (S27)))) else ((trustquorummake_Tape_Range.f x1000 x1001 1 (wrap64 ((x120001.length : Int) + (([] : List (S27)).length : Int)))).bind fun bt157 => (some (bt157.1, x120001, ([] : List (S27)), bt157.2))))
def trustquorummake_trust.l1 : Nat → Int → Int → Int → List Int → Int → Int → List Int → List (S27) → Option (Int × List Int × (List (S27)) × Int)
 | 0, _, _, _, _, _, _, _, _ => none
 | k + 1, x1, x2, x11, x1000, x1001, x120000, x120001, x120002 => if x11 > 0 then ((trustquorummake_trust.f k x1000 x1001 x1 (wrap64 (x2 - 1))).bind fun bt138 => (if x120002.length < 2513169434916 then (trustquorummake_trust.l1 k x1 x2 (wrap64 (x11 - 1)) x1000 bt138.2.2.2 x120000 x120001 (x120002 ++ [(⟨bt138.1, bt138.2.1, bt138.2.2.1⟩ : S27)])) else (none))) else (if (x120002.length : Int) > 0 then ((trustquorummake_Tape_N.f x1000 x1001 3).bind fun bt149 => (if bt149.1 = 0 then ((trustquorummake_Tape_Range.f x1000 bt149.2 1 (wrap64 ((x120002.length : Int)))).bind fun bt151 => (some (bt151.1, ([] : List Int), x120002, bt151.2))) else ((trustquorummake_Tape_Range.f x1000 bt149.2 1 (wrap64 ((x120001.length : Int) + (x120002.length : Int)))).bind fun bt153 => (some (bt153.1, x120001, x120002, bt153.2))))) else ((trustquorummake_Tape_Range.f x1000 x1001 1 (wrap64 ((x120001.length : Int) + (x120002.length : Int)))).bind fun bt155 => (some (bt155.1, x120001, x120002, bt155.2))))
def trustquorummake_trust.f : Nat → List Int → Int → Int → Int → Option (Int × List Int × (List (S27)) × Int)
 | 0, _, _, _, _ => none
 | k + 1, s0_0, s0_1, a1, a2 => (trustquorummake_Tape_Order.f k s0_0 s0_1 a1).bind fun bt120 => ((trustquorummake_Tape_Range.f s0_0 bt120.2 1 (mn a1 5)).bind fun bt124 => (if 0 ≤ bt124.1 then (if bt124.1 ≤ (bt120.1.length : Int) then ((some (bt120.1.take (bt124.1 : Int).toNat : List Int)).bind fun y126 => (trustquorummake_trust.l0 k a1 a2 y126 (y126.length : Int) 0 s0_0 bt124.2 0 ([] : List Int))) else (none)) else (none)))
end
def trustquorummake_trust.T12 : Bool × List (List Nat × List Nat) := (true, [([], []), ([0], [0]), ([], []), ([], []), ([], []), ([4], [4]), ([2, 3, 5], [2, 3, 5]), ([6], [6]), ([1, 7, 6], [1, 7]), ([0, 1, 2, 3, 4, 5, 6, 7, 8], []), ([9, 8, 8, 0, 1, 2, 3, 4, 5, 6, 7, 8], [8, 9])])
def trustquorummake_trust.B12 : List Nat := [0, 1, 0, 0, 0, 16, 60, 124, 255, 511, 1023]
theorem trustquorummake_trust.tab12 : rtab .any (opsOf Try.f20 12) = trustquorummake_trust.T12 := by kernel_rfl
theorem trustquorummake_trust.bits12 : waitsOk trustquorummake_trust.T12.2 trustquorummake_trust.B12 = true := by kernel_rfl
set_option maxHeartbeats 8000000 in
set_option maxRecDepth 100000 in
theorem trustquorummake_trust.calls (k : Nat) : ∀ (g : Nat) (s0_0 : List Int) (s0_1 : Int) (a1 : Int) (a2 : Int) (r1 : Int) (r2 : List Int) (r3 : List (S27)) (r4 : Int) (w0 w : World) (hI : IsS44 w0 w g s0_0 s0_1) (hB : Below w0.heap.size w0 w) (h : trustquorummake_trust.f k s0_0 s0_1 a1 a2 = some (r1, r2, r3, r4)),
 Calls Try.prog 20 #[.pointer (some ⟨g, 0, none⟩), .int .i64 a1, .int .i64 a2] w fun e w' => ∃ v1_ v2_ : Value, e = .returned (.agg #[.int .i64 r1, v1_, v2_]) ∧ Kd.R (Kd.int .i64) 3 w' w.heap.size (fun _ => True) v1_ r2 ∧ Kd.R k27 27 w' w.heap.size (fun k_ => some k_ ≠ (v1_ : Value).ownBlock) v2_ r3 ∧ IsS44 w0 w' g s0_0 r4 ∧ Below w0.heap.size w0 w' ∧ KeepBut w w' g none := by
 induction k using Nat.strongRecOn with
 | _ k ih =>
 intro g s0_0 s0_1 a1 a2 r1 r2 r3 r4 w0 w hI hB h
 cases k with
 | zero => exact absurd h (by simp [trustquorummake_trust.f])
 | succ k =>
 simp only [trustquorummake_trust.f] at h
 have hu27 := Try.underlying27
 have HI0 := Aside0.mk hI
 have HK := Aside0.mk (KeepBut.refl w g none)
 have HL := Aside0.mk hB.size
 clear hI
 have HW0 := Aside0.mk hB.size
 have HB := Aside0.mk hB
 clear hB
 have H : ((trustquorummake_Tape_Order.f k s0_0 s0_1 a1).bind fun bt120 => ((trustquorummake_Tape_Range.f s0_0 bt120.2 1 (mn a1 5)).bind fun bt124 => (if 0 ≤ bt124.1 then (if bt124.1 ≤ (bt120.1.length : Int) then ((some (bt120.1.take (bt124.1 : Int).toNat : List Int)).bind fun y126 => (trustquorummake_trust.l0 k a1 a2 y126 (y126.length : Int) 0 s0_0 bt124.2 0 ([] : List Int))) else (none)) else (none)))) = some (r1, r2, r3, r4) := h
 clear h
 replace H := Option.bind_eq_some_iff.mp H
 obtain ⟨⟨t120, t123⟩, A40, H⟩ := H
 replace H : ((trustquorummake_Tape_Range.f s0_0 t123 1 (mn a1 5)).bind fun bt124 => (if 0 ≤ bt124.1 then (if bt124.1 ≤ (t120.length : Int) then ((some (t120.take (bt124.1 : Int).toNat : List Int)).bind fun y126 => (trustquorummake_trust.l0 k a1 a2 y126 (y126.length : Int) 0 s0_0 bt124.2 0 ([] : List Int))) else (none)) else (none))) = some (r1, r2, r3, r4) := H
 have A4 := Aside0.mk A40
 clear A40
 obtain ⟨ji5, hji5⟩ : ∃ j_ : Int, (mn a1 5) = j_ := ⟨_, rfl⟩
 replace H : ((trustquorummake_Tape_Range.f s0_0 t123 1 (ji5)).bind fun bt124 => (if 0 ≤ bt124.1 then (if bt124.1 ≤ (t120.length : Int) then ((some (t120.take (bt124.1 : Int).toNat : List Int)).bind fun y126 => (trustquorummake_trust.l0 k a1 a2 y126 (y126.length : Int) 0 s0_0 bt124.2 0 ([] : List Int))) else (none)) else (none))) = some (r1, r2, r3, r4) := by first | (rw [hji5] at H; exact H) | (simp only [hji5] at H ⊢; exact H)
 (try rw [hji5] at A4)
 (try (have hji5h : ji5 ≤ 5 := by (rw [← hji5]; unfold mn; (repeat' split) <;> omega)))
 (try (have hji5g : ji5 ≤ 64 := by omega))
 have hji5_ : (if 5 < a1 then 5 else a1) = ji5 := hji5
 replace H := Option.bind_eq_some_iff.mp H
 obtain ⟨⟨t124, t125⟩, A60, H⟩ := H
 replace H : (if 0 ≤ t124 then (if t124 ≤ (t120.length : Int) then ((some (t120.take (t124 : Int).toNat : List Int)).bind fun y126 => (trustquorummake_trust.l0 k a1 a2 y126 (y126.length : Int) 0 s0_0 t125 0 ([] : List Int))) else (none)) else (none)) = some (r1, r2, r3, r4) := H
 have A6 := Aside0.mk A60
 clear A60
 by_cases c7 : 0 ≤ t124
 ·rw [if_pos c7] at H
  have c7b0 := eq_true c7
  have c7b1 : decide (0 ≤ t124) = true := decide_eq_true c7
  clear c7
  by_cases c8 : t124 ≤ (t120.length : Int)
  ·rw [if_pos c8] at H
   have c8b0 := eq_true c8
   have c8b1 : decide (t124 ≤ (t120.length : Int)) = true := decide_eq_true c8
   clear c8
   obtain ⟨y126, hy126⟩ : ∃ y_ : List Int, y_ = (t120.take (t124 : Int).toNat) := ⟨_, rfl⟩
   replace H : (trustquorummake_trust.l0 k a1 a2 y126 (y126.length : Int) 0 s0_0 t125 0 ([] : List Int)) = some (r1, r2, r3, r4) := by first | (rw [hy126]; with_reducible exact H) | (have H2_ := (Option.bind_some _ _).symm.trans H; rw [hy126]; with_reducible exact H2_) | (have H2_ := (Option.bind_some _ _).symm.trans H; with_reducible exact H2_) | with_reducible exact H | (rw [hy126]; exact H) | exact H
   have Ny126 := Aside0.mk hy126
   clear hy126
   have H' := Aside0.mk H
   clear H
   go_enter Try.func20, Try.ntmps20
   go_wp2_with (first | ((with_reducible refine gate_dst (N := 6) rfl ?_); refine box_event ?hg (N := 6) ?hd (cs := #[.int .i64 0, .slice none 0 0, .slice none 0 0]) (t := 27) ?hr ?_; (case hd => rfl); (case hg => rfl); (case hr => first | (go_simp; done) | (go_simp; rfl)); intro gb118 hg w9 hbox hb; replace HB := bs HB hb; have BK118 := Aside0.mk (hbox); have GW118 := Aside0.mk ((by rw [hg]; exact (keep_size (w := w) (g := g) (row := none) (kU HK)) : w.heap.size ≤ gb118)); have GE118 := Aside0.mk ((Nat.le_trans HW0.out (by rw [hg]; exact (keep_size (w := w) (g := g) (row := none) (kU HK)) : w.heap.size ≤ gb118) : w0.heap.size ≤ gb118)); replace HK := Aside0.mk (KeepBut.trans (kU HK) (KeepBut.of_below hb g none) (.inl rfl)); have NB0_118 := Aside0.mk ((by rw [hg]; exact Nat.ne_of_lt (IsS44.lt (show IsS44 w0 _ g s0_0 s0_1 from iU HI0)) : g ≠ gb118)); have NB118_0 := Aside0.mk ((by rw [hg]; exact Nat.ne_of_gt (IsS44.lt (show IsS44 w0 _ g s0_0 s0_1 from iU HI0)) : gb118 ≠ g)); replace HI0 := Aside0.mk (IsS44.below (iU HI0) hb); clear hb hbox hg) | ((with_reducible refine gate_dst (N := 7) rfl ?_); refine box_event ?hg (N := 7) ?hd (cs := #[.int .i64 0, .slice none 0 0, .slice none 0 0]) (t := 27) ?hr ?_; (case hd => rfl); (case hg => rfl); (case hr => first | (go_simp; done) | (go_simp; rfl)); intro gb119 hg w10 hbox hb; replace HB := bs HB hb; have BK119 := Aside0.mk (hbox); have GW119 := Aside0.mk ((by rw [hg]; exact (keep_size (w := w) (g := g) (row := none) (by repeat (first | (with_reducible first | exact HK.out | apply KeepBut.set_ | apply keep_drewN | apply keep_drew | apply keep_alloc | refine keep_far ?_ GW118.out _) | exact HK.out))) : w.heap.size ≤ gb119)); have GE119 := Aside0.mk ((Nat.le_trans HW0.out (by rw [hg]; exact (keep_size (w := w) (g := g) (row := none) (by repeat (first | (with_reducible first | exact HK.out | apply KeepBut.set_ | apply keep_drewN | apply keep_drew | apply keep_alloc | refine keep_far ?_ GW118.out _) | exact HK.out))) : w.heap.size ≤ gb119) : w0.heap.size ≤ gb119)); replace HK := Aside0.mk (KeepBut.trans (by repeat (first | (with_reducible first | exact HK.out | apply KeepBut.set_ | apply keep_drewN | apply keep_drew | apply keep_alloc | refine keep_far ?_ GW118.out _) | exact HK.out)) (KeepBut.of_below hb g none) (.inl rfl)); have NB118_119 := Aside0.mk ((by rw [hg]; exact Nat.ne_of_lt (blk_lt (bU BK118)) : gb118 ≠ gb119)); have NB119_118 := Aside0.mk ((by rw [hg]; exact Nat.ne_of_gt (blk_lt (bU BK118)) : gb119 ≠ gb118)); replace BK118 := bb BK118 hb; have NB0_119 := Aside0.mk ((by rw [hg]; exact Nat.ne_of_lt (IsS44.lt (show IsS44 w0 _ g s0_0 s0_1 from iU HI0)) : g ≠ gb119)); have NB119_0 := Aside0.mk ((by rw [hg]; exact Nat.ne_of_gt (IsS44.lt (show IsS44 w0 _ g s0_0 s0_1 from iU HI0)) : gb119 ≠ g)); replace HI0 := Aside0.mk (IsS44.below (iU HI0) hb); clear hb hbox hg) | ((with_reducible refine gate_callee (f := 36) rfl ?_); refine goesA_ (some 14) rfl rfl Try.func36 rfl #[.pointer (some ⟨g, 0, none⟩), .int .i64 a1] rfl ?_; (with_reducible refine (trustquorummake_Tape_Order.calls k g s0_0 s0_1 a1 t120 t123 w0 _ ?side1 ?side2 A4.out).mono ?_); (case side1 => exact iU HI0); (case side2 => exact bB HB); rintro e w11 ⟨v121, rfl, ho0, hi, hb, hk⟩; refine ⟨_, rfl, ?_⟩; replace BK118 := Aside0.mk (KeepBut.blk hk (bU BK118) NB118_0.out (by simp)); replace BK119 := Aside0.mk (KeepBut.blk hk (bU BK119) NB119_0.out (by simp)); have HO122 := Aside0.mk (Kd.R_lower ho0 (keep_size (w := w) (g := g) (row := none) (by repeat (first | (with_reducible first | exact HK.out | apply KeepBut.set_ | apply keep_drewN | apply keep_drew | apply keep_alloc | refine keep_far ?_ GW118.out _ | refine keep_far ?_ GW119.out _) | exact HK.out)))); replace HK := Aside0.mk (KeepBut.trans (by repeat (first | (with_reducible first | exact HK.out | apply KeepBut.set_ | apply keep_drewN | apply keep_drew | apply keep_alloc | refine keep_far ?_ GW118.out _ | refine keep_far ?_ GW119.out _) | exact HK.out)) hk (.inl rfl)); replace HB := Aside0.mk (hb); replace HI0 := Aside0.mk (hi); (try clear hb); (try clear hb2); (try clear hk); (try clear hi); (try clear ho0)) | ((with_reducible refine gate_callee (f := 8) rfl ?_); refine goesL_ (some 19) rfl rfl Try.func8 (by kernel_rfl) rfl #[.pointer (some ⟨g, 0, none⟩), .int .i64 1, .int .i64 ji5] rfl (by (try simp only [List.map_toArray, List.map_cons, List.map_nil]); first | done | (simp only [hji5]; rfl) | rfl | (simp only [List.length_drop, List.length_take]; rfl)) ?_; (with_reducible refine (trustquorummake_Tape_Range.calls g s0_0 t123 1 ji5 t124 t125 w0 _ ?side1 ?side2 A6.out).mono ?_); (case side1 => exact iU HI0); (case side2 => exact bB HB); rintro e w12 ⟨rfl, hi, hb, hk⟩; refine ⟨_, rfl, ?_⟩; replace BK118 := Aside0.mk (KeepBut.blk hk (bU BK118) NB118_0.out (by simp)); replace BK119 := Aside0.mk (KeepBut.blk hk (bU BK119) NB119_0.out (by simp)); replace HO122 := Aside0.mk (Kd.R_mono (Kd.R_keep (IsS44.apart (show IsS44 w0 _ g s0_0 t123 from iU HI0) (Kd.uR HO122) (by decide)) hk (fun _ h => h.2)) (fun _ h => h.1)); replace HK := Aside0.mk (KeepBut.trans (by repeat (first | (with_reducible first | exact HK.out | apply KeepBut.set_ | apply keep_drewN | apply keep_drew | apply keep_alloc | refine keep_far ?_ GW118.out _ | refine keep_far ?_ GW119.out _) | exact HK.out)) hk (.inl rfl)); replace HB := Aside0.mk (hb); replace HI0 := Aside0.mk (hi); (try clear hb); (try clear hb2); (try clear hk); (try clear hi); obtain ⟨Ao13, co13, eo13⟩ := Kd.R_slice HO122.out; subst eo13; have q14 : (t124 : Int) ≤ ((t120.length : Int) : Int) := of_decide_eq_true (by first | (with_reducible assumption) | assumption); obtain ⟨i014, hi014, _, hsz14, _⟩ := info_parts info3; have hcut14 := cut_to (P := Try.prog) 22 3 .i64 Try.underlying22 hi014 Ao13 t120.length co13 t124 (of_decide_eq_true (by first | (with_reducible assumption) | assumption)) q14 (Kd.R_reads' HO122.out).2.1; have hr14 := Kd.R_take (m := (t124 : Int).toNat) HO122.out (by omega); have hy14 : y126.length = (t124 : Int).toNat := (by rw [Ny126.out, List.length_take]; omega); rw [← Ny126.out] at hr14; rw [← hy14] at hr14 hcut14; clear hy14 hi014 hsz14 HO122; have HO128 := Aside0.mk hr14; clear hr14; replace q14 := eq_true q14))
   go_loopg [22] k (fun kq v22 w' => ∃ (x22_1 : Int) (x120001_1 : List Int) (u120001 : Value), v22 = .int .i64 x22_1 ∧ Aside0 (trustquorummake_trust.l0 kq a1 a2 y126 (y126.length : Int) x22_1 s0_0 t125 0 x120001_1 = some (r1, r2, r3, r4)) ∧ Aside0 (kq ≤ k) ∧ Aside0 (Kd.R (Kd.int .i64) 3 w' w.heap.size (fun k_ => some k_ ≠ (u120001 : Value).ownBlock) (.slice Ao13 y126.length co13) y126) ∧ Aside0 (Kd.R (Kd.int .i64) 3 w' w.heap.size (fun k_ => some k_ ≠ ((.slice Ao13 y126.length co13) : Value).ownBlock) u120001 x120001_1) ∧ Aside0 (w'.heap[gb118]? = some (.cells #[.int .i64 0, (.slice none 0 0), (.slice none 0 0)] 27 (0, 0))) ∧ Aside0 (w'.heap[gb119]? = some (.cells #[.int .i64 0, u120001, (.slice none 0 0)] 27 (0, 0))) ∧ Aside0 (IsS44 w0 w' g s0_0 t125) ∧ Aside0 (KeepBut w w' g none) ∧ Aside0 (Below w0.heap.size w0 w'))
   case atStart => exact ⟨(0), (([] : List Int)), (.slice none 0 0), (by first | rfl | (simp; done) | (simp [*]; done)), H', ⟨Nat.le_refl _⟩, ⟨by (with_reducible repeat (first | apply Kd.R_alloc | apply Kd.R_drewN | apply Kd.R_drew)); exact Kd.R_mono HO128.out (fun _ hk => (by simp [Value.ownBlock]))⟩, ⟨by first | exact Kd.R_nil _ _ _ _ _ | exact Kd.N_nil _ _ _ _ _ | exact Kd.V_nil _ _ _ _ _ | exact Kd.Q_nil _ _ _ _ _ | exact Kd.S_nil _ _ _ _ _⟩, ⟨bU BK118⟩, ⟨bU BK119⟩, ⟨iU HI0⟩, ⟨by repeat (first | (with_reducible first | exact HK.out | apply KeepBut.set_ | apply keep_drewN | apply keep_drew | apply keep_alloc | refine keep_far ?_ GW118.out _ | refine keep_far ?_ GW119.out _) | exact HK.out)⟩, ⟨bB HB⟩⟩
   case round =>
    clear H'
    try clear q1
    try clear c2
    try clear p2
    try clear c3
    try clear c7
    try clear c7b0
    try clear c7b1
    try clear c8
    try clear c8b0
    try clear c8b1
    try clear q14
    try clear q14
    obtain ⟨x22_1, x120001_1, u120001, rfl, HA, HK1, HO_20, HO_120001, BK118, BK119, HI0, HK, HB⟩ := hrel
    cases gk with
    | zero => exact absurd HA.out (by simp [trustquorummake_trust.l0])
    | succ k1 =>
     have H := HA.out
     clear HA
     simp only [trustquorummake_trust.l0] at H
     by_cases c15 : x22_1 < (y126.length : Int)
     ·rw [if_pos c15] at H
      have c15b0 : decide (x22_1 < (y126.length : Int)) = true := decide_eq_true c15
      clear c15
      by_cases c16 : 0 ≤ x22_1
      ·rw [if_pos c16] at H
       have c16b0 : decide (0 ≤ x22_1) = true := decide_eq_true c16
       clear c16
       by_cases c17 : x22_1 < (y126.length : Int)
       ·rw [if_pos c17] at H
        have c17b0 : decide (x22_1 < (y126.length : Int)) = true := decide_eq_true c17
        clear c17
        by_cases c18 : x120001_1.length < 17592186044416
        ·rw [if_pos c18] at H
         have LMc18 := Aside0.mk c18
         clear c18
         obtain ⟨y130, hy130⟩ : ∃ y_ : List Int, y_ = (x120001_1 ++ [rd y126 x22_1]) := ⟨_, rfl⟩
         replace H : (trustquorummake_trust.l0 k1 a1 a2 y126 (y126.length : Int) (wrap64 (x22_1 + 1)) s0_0 t125 0 y130) = some (r1, r2, r3, r4) := by first | (rw [hy130]; with_reducible exact H) | (have H2_ := (Option.bind_some _ _).symm.trans H; rw [hy130]; with_reducible exact H2_) | (have H2_ := (Option.bind_some _ _).symm.trans H; with_reducible exact H2_) | with_reducible exact H | (rw [hy130]; exact H) | exact H
         have Ny130 := Aside0.mk hy130
         clear hy130
         have H' := Aside0.mk H
         clear H
         have p129 : 0 ≤ (x22_1 : Int) := of_decide_eq_true (by first | (with_reducible assumption) | assumption)
         have q129 : x22_1 < (y126.length : Int) := of_decide_eq_true (by first | (with_reducible assumption) | assumption)
         obtain ⟨ad129, e129, hx129_0⟩ := Kd.at_int (Kd.R_reads' HO_20.out).2.2 x22_1 p129 q129
         cases e129
         replace p129 := eq_true p129
         replace q129 := eq_true q129
         have hnb19 := NB119_118.out
         have hnc19 := NB118_119.out
         have hnb20 := NB119_0.out
         have hnc20 := NB0_119.out
         have hcz21_0 := bC0 BK119
         have hcz21_1 := bC1 BK119
         have hcz21_2 := bC2 BK119
         have hfz21_0 := blk_frozen BK119.out 0
         have hfz21_1 := blk_frozen BK119.out 1
         have hfz21_2 := blk_frozen BK119.out 2
         go_wp2_with (first | ((with_reducible refine gate_builtin (b := .append) (xs := #[.tmp 27, .tmp 29]) rfl ?_); at_builtin; refine Kd.R_append (Kd.int .i64) w.heap.size rfl (.tmp 27) (.tmp 29) 22 3 (.int .i64 0) 8 rfl Try.underlying22 info3 rfl (by decide) (by omega) u120001 x120001_1 (rd y126 x22_1) [.int .i64 (rd y126 x22_1)] (fun k_ => some k_ ≠ (.slice (some ad129) y126.length co13 : Value).ownBlock) (fun _ => False) rfl rfl ?aP (fun _ hk => hk.elim) ?aF ?aO (Below.refl _ _) ?aS ?aL ?_; (case aP => exact rfl); (case aF => exact (fun k_ hk => Kd.fresh' (Kd.R_lt (Kd.uR HO_20)) k_ hk)); (case aO => exact (Kd.uR HO_120001)); (case aS => exact (keep_size (w := w) (g := g) (row := none) (by repeat (first | (with_reducible first | exact HK.out | apply KeepBut.set_ | apply keep_drewN | apply keep_drew | apply keep_alloc | refine keep_far ?_ GW118.out _ | refine keep_far ?_ GW119.out _) | exact HK.out)))); (case aL => have := LMc18.out; omega); intro v131 w22 ho hb hg hat; rw [← Ny130.out] at ho; replace HO_20 := Aside0.mk (Kd.R_after (ok := (fun _ => True)) (by (with_reducible repeat (first | apply Kd.R_alloc | apply Kd.R_drewN | apply Kd.R_drew)); exact Kd.R_mono HO_20.out (fun _ hk => ⟨trivial, hk⟩)) hg hat); replace BK118 := Aside0.mk (blk_grown (bU BK118) hg (Kd.R_ne HO_120001.out BK118.out (by decide))); replace BK119 := Aside0.mk (blk_grown (bU BK119) hg (Kd.R_ne HO_120001.out BK119.out (by decide))); replace HI0 := Aside0.mk (IsS44.grown (iU HI0) hg (IsS44.own_ne HI0.out HO_120001.out (by decide))); replace HB := Aside0.mk (below_weaken (bB HB) HL.out hb); replace HK := Aside0.mk (KeepBut.trans (by repeat (first | (with_reducible first | exact HK.out | apply KeepBut.set_ | apply keep_drewN | apply keep_drew | apply keep_alloc | refine keep_far ?_ GW118.out _ | refine keep_far ?_ GW119.out _) | exact HK.out)) (KeepBut.of_grown hg g) (Kd.R_base2 HO_120001.out)); have HO132 := Aside0.mk (ho); clear HO_120001; clear ho hb hg hat; obtain ⟨Ao23, co23, eo23⟩ := Kd.R_slice HO132.out; subst eo23; have hcz24_0 := bC0 BK119; have hcz24_1 := bC1 BK119; have hcz24_2 := bC2 BK119; have hfz24_0 := blk_frozen BK119.out 0; have hfz24_1 := blk_frozen BK119.out 1; have hfz24_2 := blk_frozen BK119.out 2))
         go_roundg k1
         case measure => have := HK1.out; omega
         case rel => exact ⟨(wrap64 (x22_1 + 1)), (y130), (.slice Ao23 y130.length co23), (by first | rfl | (simp; done) | (simp [*]; done)), H', ⟨by have := HK1.out; omega⟩, ⟨by (with_reducible repeat (first | apply Kd.R_alloc | apply Kd.R_drewN | apply Kd.R_drew)); exact Kd.R_mono (Kd.R_ft1 (Kd.R_types HO_20.out BK119.out (by decide))) (fun _ hk => hk.2)⟩, ⟨by (with_reducible repeat (first | apply Kd.R_alloc | apply Kd.R_drewN | apply Kd.R_drew)); exact Kd.R_ft1 (Kd.R_types HO132.out BK119.out (by decide))⟩, ⟨bF BK118⟩, ⟨by (with_reducible repeat (first | refine blk_drewN ?_ _ | refine blk_drew ?_ | refine blk_alloc ?_ _)); refine blk_put (cs := #[.int .i64 0, u120001, .slice none 0 0]) ?_ 1 _ rfl; (with_reducible repeat (first | refine blk_drewN ?_ _ | refine blk_drew ?_ | refine blk_alloc ?_ _)); exact BK119.out⟩, ⟨iU HI0⟩, ⟨by repeat (first | (with_reducible first | exact HK.out | apply KeepBut.set_ | apply keep_drewN | apply keep_drew | apply keep_alloc | refine keep_far ?_ GW118.out _ | refine keep_far ?_ GW119.out _) | exact HK.out)⟩, ⟨bB HB⟩⟩
        ·rw [if_neg c18] at H
         exact absurd H (by simp)
       ·rw [if_neg c17] at H
        exact absurd H (by simp)
      ·rw [if_neg c16] at H
       exact absurd H (by simp)
     ·rw [if_neg c15] at H
      have c15b0 : decide (x22_1 < (y126.length : Int)) = false := decide_eq_false c15
      clear c15
      by_cases c25 : a2 > 1
      ·rw [if_pos c25] at H
       have c25b0 : decide (1 < a2) = true := decide_eq_true c25
       clear c25
       obtain ⟨y133, hy133⟩ : ∃ y_ : List Int, y_ = (([0, 0, 1, 1, 2, 3] : List Int)) := ⟨_, rfl⟩
       replace H : ((trustquorummake_Tape_Pick.f s0_0 t125 y133).bind fun bt136 => (trustquorummake_trust.l1 k1 a1 a2 bt136.1 s0_0 bt136.2 0 x120001_1 ([] : List (S27)))) = some (r1, r2, r3, r4) := by first | (rw [hy133]; with_reducible exact H) | (have H2_ := (Option.bind_some _ _).symm.trans H; rw [hy133]; with_reducible exact H2_) | (have H2_ := (Option.bind_some _ _).symm.trans H; with_reducible exact H2_) | with_reducible exact H | (rw [hy133]; exact H) | exact H
       have Ny133 := Aside0.mk hy133
       clear hy133
       replace H := Option.bind_eq_some_iff.mp H
       obtain ⟨⟨t136, t137⟩, A260, H⟩ := H
       replace H : (trustquorummake_trust.l1 k1 a1 a2 t136 s0_0 t137 0 x120001_1 ([] : List (S27))) = some (r1, r2, r3, r4) := H
       have A26 := Aside0.mk A260
       clear A260
       have H' := Aside0.mk H
       clear H
       go_wp2_with (first | ((with_reducible refine gate_dst (N := 36) rfl ?_); refine Kd.R_lit (Kd.int .i64) _ 3 ?hg (N := 36) ?hd (xs := ([0, 0, 1, 1, 2, 3] : List Int)) (inner := [.int .i64 0, .int .i64 0, .int .i64 1, .int .i64 1, .int .i64 2, .int .i64 3]) (ok := fun _ => True) (okp := fun _ => True) ?hr ?hp (fun _ hk => hk) trivial (Below.refl _ _) (Nat.le_refl _) (by simp) ?_; (case hd => rfl); (case hg => rfl); (case hr => first | (go_simp; done) | (go_simp; rfl)); (case hp => exact (Reps.one (show Kd.M (Kd.int .i64) _ _ _ 0 [.int .i64 0] from rfl) (Reps.one (show Kd.M (Kd.int .i64) _ _ _ 0 [.int .i64 0] from rfl) (Reps.one (show Kd.M (Kd.int .i64) _ _ _ 1 [.int .i64 1] from rfl) (Reps.one (show Kd.M (Kd.int .i64) _ _ _ 1 [.int .i64 1] from rfl) (Reps.one (show Kd.M (Kd.int .i64) _ _ _ 2 [.int .i64 2] from rfl) (Reps.one (show Kd.M (Kd.int .i64) _ _ _ 3 [.int .i64 3] from rfl) (Reps.none _ _)))))))); intro v134 w27 ho28 hb hg_ hnew_; clear hg_ hnew_; (first | rw [← Ny133.out] at ho28 | (simp only [Int.reduceToNat] at ho28; rw [← Ny133.out] at ho28)); have HO135 := Aside0.mk (Kd.R_lower (Kd.R_new' (Kd.R_new' ho28 (Kd.R_lt (Kd.uR HO_20))) (Kd.R_lt (Kd.uR HO_120001))) (keep_size (w := w) (g := g) (row := none) (by repeat (first | (with_reducible first | exact HK.out | apply KeepBut.set_ | apply keep_drewN | apply keep_drew | apply keep_alloc | refine keep_far ?_ GW118.out _ | refine keep_far ?_ GW119.out _) | exact HK.out)))); replace HO_20 := Aside0.mk (Kd.R_elder' (Kd.uR HO_20) (Kd.R_base ho28) hb); replace HO_120001 := Aside0.mk (Kd.R_elder' (Kd.uR HO_120001) (Kd.R_base ho28) hb); replace BK118 := bb BK118 hb; replace BK119 := bb BK119 hb; replace HI0 := Aside0.mk (IsS44.below (iU HI0) hb); replace HK := Aside0.mk (KeepBut.trans (by repeat (first | (with_reducible first | exact HK.out | apply KeepBut.set_ | apply keep_drewN | apply keep_drew | apply keep_alloc | refine keep_far ?_ GW118.out _ | refine keep_far ?_ GW119.out _) | exact HK.out)) (KeepBut.of_below hb g none) (.inl rfl)); replace HB := bs HB hb; clear hb ho28; obtain ⟨Ao29, co29, eo29⟩ := Kd.R_slice HO135.out; subst eo29) | ((with_reducible refine gate_callee (f := 37) rfl ?_); refine goesA_ (some 37) rfl rfl Try.func37 rfl #[.pointer (some ⟨g, 0, none⟩), .slice Ao29 y133.length co29] rfl ?_; (with_reducible refine (trustquorummake_Tape_Pick.calls g s0_0 t125 _ _ y133 t136 t137 w0 _ ?side1 ?side2 ?side3 ?side4 ?side5 A26.out).mono ?_); (case side1 => exact iU HI0); (case side2 => exact bB HB); (case side3 => exact Kd.uC ((Kd.R_reads' HO135.out).2.2)); (case side4 => exact (Kd.R_reads' HO135.out).2.1); (case side5 => exact far_slice (IsS44.own_ne HI0.out HO135.out (by decide))); rintro e w30 ⟨rfl, hi, hb, hk⟩; refine ⟨_, rfl, ?_⟩; replace HO_20 := Aside0.mk (Kd.R_mono (Kd.R_keep (IsS44.apart (show IsS44 w0 _ g s0_0 t125 from iU HI0) (Kd.uR HO_20) (by decide)) hk (fun _ h => h.2)) (fun _ h => h.1)); replace HO_120001 := Aside0.mk (Kd.R_mono (Kd.R_keep (IsS44.apart (show IsS44 w0 _ g s0_0 t125 from iU HI0) (Kd.uR HO_120001) (by decide)) hk (fun _ h => h.2)) (fun _ h => h.1)); replace BK118 := Aside0.mk (KeepBut.blk hk (bU BK118) NB118_0.out (by simp)); replace BK119 := Aside0.mk (KeepBut.blk hk (bU BK119) NB119_0.out (by simp)); replace HO135 := Aside0.mk (Kd.R_mono (Kd.R_keep (IsS44.apart (show IsS44 w0 _ g s0_0 t125 from iU HI0) (Kd.uR HO135) (by decide)) hk (fun _ h => h.2)) (fun _ h => h.1)); replace HK := Aside0.mk (KeepBut.trans (by repeat (first | (with_reducible first | exact HK.out | apply KeepBut.set_ | apply keep_drewN | apply keep_drew | apply keep_alloc | refine keep_far ?_ GW118.out _ | refine keep_far ?_ GW119.out _) | exact HK.out)) hk (.inl rfl)); replace HB := Aside0.mk (hb); replace HI0 := Aside0.mk (hi); (try clear hb); (try clear hb2); (try clear hk); (try clear hi)))
       go_loopg [11] k1 (fun kq v11 w' => ∃ (x11_2 : Int) (x1001_2 : Int) (x120002_2 : List (S27)) (u120002 : Value), v11 = .int .i64 x11_2 ∧ Aside0 (trustquorummake_trust.l1 kq a1 a2 x11_2 s0_0 x1001_2 0 x120001_1 x120002_2 = some (r1, r2, r3, r4)) ∧ Aside0 (kq ≤ k1) ∧ Aside0 (Kd.R (Kd.int .i64) 3 w' w.heap.size (fun _ => True) u120001 x120001_1) ∧ Aside0 (Kd.R k27 27 w' w.heap.size (fun k_ => some k_ ≠ (u120001 : Value).ownBlock ∧ k_ ≠ gb118 ∧ k_ ≠ gb119) u120002 x120002_2) ∧ Aside0 (w'.heap[gb118]? = some (.cells #[.int .i64 0, (.slice none 0 0), (.slice none 0 0)] 27 (0, 0))) ∧ Aside0 (w'.heap[gb119]? = some (.cells #[.int .i64 0, u120001, u120002] 27 (0, 0))) ∧ Aside0 (IsS44 w0 w' g s0_0 x1001_2) ∧ Aside0 (KeepBut w w' g none) ∧ Aside0 (Below w0.heap.size w0 w'))
       case atStart => exact ⟨(t136), (t137), (([] : List (S27))), (.slice none 0 0), (by first | rfl | (simp; done) | (simp [*]; done)), H', ⟨Nat.le_refl _⟩, ⟨by (with_reducible repeat (first | apply Kd.R_alloc | apply Kd.R_drewN | apply Kd.R_drew)); exact Kd.R_mono HO_120001.out (fun _ hk => trivial)⟩, ⟨by first | exact Kd.R_nil _ _ _ _ _ | exact Kd.N_nil _ _ _ _ _ | exact Kd.V_nil _ _ _ _ _ | exact Kd.Q_nil _ _ _ _ _ | exact Kd.S_nil _ _ _ _ _⟩, ⟨bU BK118⟩, ⟨bU BK119⟩, ⟨iU HI0⟩, ⟨by repeat (first | (with_reducible first | exact HK.out | apply KeepBut.set_ | apply keep_drewN | apply keep_drew | apply keep_alloc | refine keep_far ?_ GW118.out _ | refine keep_far ?_ GW119.out _) | exact HK.out)⟩, ⟨bB HB⟩⟩
       case round =>
        clear H'
        try clear c1
        try clear p1
        try clear q1
        try clear hx1
        try clear c2
        try clear p2
        try clear c3
        try clear p6
        try clear c7
        try clear c7b0
        try clear c7b1
        try clear c8
        try clear c8b0
        try clear c8b1
        try clear p12
        try clear q12
        try clear hx12
        try clear q14
        try clear c15
        try clear c15b0
        try clear c16
        try clear c16b0
        try clear c17
        try clear c17b0
        try clear c18
        try clear c19
        try clear c20
        try clear c25
        try clear c25b0
        try clear hcz21_0
        try clear hcz21_1
        try clear hcz21_2
        try clear hcz24_0
        try clear hcz24_1
        try clear hcz24_2
        try clear hfz21_0
        try clear hfz21_1
        try clear hfz21_2
        try clear hfz24_0
        try clear hfz24_1
        try clear hfz24_2
        try clear hx129_0
        try clear p129
        try clear p2
        try clear q1
        try clear q129
        try clear q14
        obtain ⟨x11_2, x1001_2, x120002_2, u120002, rfl, HA, HK2, HO_120001, HO_120002, BK118, BK119, HI0, HK, HB⟩ := hrel
        cases gk with
        | zero => exact absurd HA.out (by simp [trustquorummake_trust.l1])
        | succ k2 =>
         have H := HA.out
         clear HA
         simp only [trustquorummake_trust.l1] at H
         by_cases c31 : x11_2 > 0
         ·rw [if_pos c31] at H
          have c31b0 : decide (0 < x11_2) = true := decide_eq_true c31
          clear c31
          replace H := Option.bind_eq_some_iff.mp H
          obtain ⟨⟨t138, t139, t142, t145⟩, A320, H⟩ := H
          replace H : (if x120002_2.length < 2513169434916 then (trustquorummake_trust.l1 k2 a1 a2 (wrap64 (x11_2 - 1)) s0_0 t145 0 x120001_1 (x120002_2 ++ [(⟨t138, t139, t142⟩ : S27)])) else (none)) = some (r1, r2, r3, r4) := H
          have A32 := Aside0.mk A320
          clear A320
          by_cases c33 : x120002_2.length < 2513169434916
          ·rw [if_pos c33] at H
           have LMc33 := Aside0.mk c33
           clear c33
           obtain ⟨y146, hy146⟩ : ∃ y_ : List (S27), y_ = (x120002_2 ++ [(⟨t138, t139, t142⟩ : S27)]) := ⟨_, rfl⟩
           replace H : (trustquorummake_trust.l1 k2 a1 a2 (wrap64 (x11_2 - 1)) s0_0 t145 0 x120001_1 y146) = some (r1, r2, r3, r4) := by first | (rw [hy146]; with_reducible exact H) | (have H2_ := (Option.bind_some _ _).symm.trans H; rw [hy146]; with_reducible exact H2_) | (have H2_ := (Option.bind_some _ _).symm.trans H; with_reducible exact H2_) | with_reducible exact H | (rw [hy146]; exact H) | exact H
           have Ny146 := Aside0.mk hy146
           clear hy146
           have H' := Aside0.mk H
           clear H
           try go_wp2
           replace HO_120001 := Aside0.mk (Kd.R_drew HO_120001.out)
           replace HO_120002 := Aside0.mk (Kd.R_drew HO_120002.out)
           replace BK118 := Aside0.mk (blk_drew BK118.out)
           replace BK119 := Aside0.mk (blk_drew BK119.out)
           replace HI0 := Aside0.mk (IsS44.drew HI0.out)
           replace HK := Aside0.mk (keep_drew HK.out)
           replace HB := Aside0.mk (below_drew1 HB.out)
           refine start_ (n := 11) (S := fun w' => w'.cell? ⟨gb119, 0, none⟩ = some (.int .i64 0) ∧ w'.cell? ⟨gb119, 1, none⟩ = some (u120001) ∧ w'.cell? ⟨gb119, 2, none⟩ = some (u120002)) (ds := [10]) #[false, false, false, false, false, false, false, false, false, false, false] (by kernel_rfl) rfl rfl ⟨bC0 BK119, bC1 BK119, bC2 BK119⟩ (fun hHeld => ?_); refine with_tabW trustquorummake_trust.tab12 trustquorummake_trust.bits12 (fun HT_ HW_ => ?_)
           generalize wr.drew = w34 at HO_120001 HO_120002 BK118 BK119 HI0 HK HB hHeld ⊢
           refine pureA_ 0 42 HT_ ?_
           refine pureA_ 2 44 HT_ ?_
           refine pureA_ 3 45 HT_ ?_
           refine pureA_ 4 46 HT_ ?_
           refine pureA_ 5 47 HT_ ?_
           refine takeA_ 1 43 HT_ HW_ hHeld ?_
           refine one_ (i := 6) (N := some 48) #[true, true, true, true, true, true, true, false, false, false, false] rfl rfl (one_of HT_.out (by kernel_rfl)) (by decide) (fun K hK => ?_)
           refine goes_ Try.func20 (by kernel_rfl) rfl #[.pointer (some ⟨g, 0, none⟩), .int .i64 a1, .int .i64 (wrap64 (a2 - 1))] (by rfl) rfl rfl (by (try simp only [List.map_toArray, List.map_cons, List.map_nil]); first | done | rfl | (simp only [List.length_drop, List.length_take]; rfl)) ?_
           with_reducible refine (ih k2 (by have := HK1.out; have := HK2.out; omega) g s0_0 x1001_2 a1 (wrap64 (a2 - 1)) t138 t139 t142 t145 w0 _ ?side1 ?side2 A32.out).mono ?_
           (case side1 => exact iU HI0)
           (case side2 => exact bB HB)
           rintro e w35 ⟨v140, v143, rfl, ho0, ho1, hi, hb, hk⟩
           refine ⟨_, rfl, ?_⟩
           have HO141 := Aside0.mk (Kd.R_lower (Kd.R_new' ho0 (Kd.R_lt (Kd.uR HO_120001))) (keep_size (w := w) (g := g) (row := none) (by repeat (first | (with_reducible first | exact HK.out | apply KeepBut.set_ | apply keep_drewN | apply keep_drew | apply keep_alloc | refine keep_far ?_ GW118.out _ | refine keep_far ?_ GW119.out _) | exact HK.out))))
           have HO144 := Aside0.mk (Kd.R_lower (Kd.R_newB (Kd.R_newB (Kd.R_new' (Kd.R_new' ho1 (Kd.R_lt (Kd.uR HO_120001))) (Kd.R_lt (Kd.uR HO_120002))) (bU BK118)) (bU BK119)) (keep_size (w := w) (g := g) (row := none) (by repeat (first | (with_reducible first | exact HK.out | apply KeepBut.set_ | apply keep_drewN | apply keep_drew | apply keep_alloc | refine keep_far ?_ GW118.out _ | refine keep_far ?_ GW119.out _) | exact HK.out))))
           replace HO_120001 := Aside0.mk (Kd.R_mono (Kd.R_told (Kd.R_oldK (IsS44.apart (show IsS44 w0 _ g s0_0 x1001_2 from iU HI0) (Kd.uR HO_120001) (by decide)) hk) (Kd.R_base ho0)) (fun _ h_ => h_.1))
           replace HO_120002 := Aside0.mk (Kd.R_mono (Kd.R_told (Kd.R_told (Kd.R_oldK (IsS44.apart (show IsS44 w0 _ g s0_0 x1001_2 from iU HI0) (Kd.uR HO_120002) (by decide)) hk) (Kd.R_base ho0)) (Kd.R_base ho1)) (fun _ h_ => h_.1))
           replace BK118 := Aside0.mk (KeepBut.blk hk (bU BK118) NB118_0.out (by simp))
           replace BK119 := Aside0.mk (KeepBut.blk hk (bU BK119) NB119_0.out (by simp))
           replace HK := Aside0.mk (KeepBut.trans (by repeat (first | (with_reducible first | exact HK.out | apply KeepBut.set_ | apply keep_drewN | apply keep_drew | apply keep_alloc | refine keep_far ?_ GW118.out _ | refine keep_far ?_ GW119.out _) | exact HK.out)) hk (.inl rfl))
           replace HB := Aside0.mk (hb)
           replace HI0 := Aside0.mk (hi)
           (try clear hb)
           (try clear hb2)
           (try clear hk)
           (try clear hi)
           (try clear ho0)
           (try clear ho1)
           obtain ⟨Ao37, co37, eo37⟩ := Kd.R_slice HO141.out
           (first | subst eo37 | (injection eo37 with f1_ f2_ f3_; have f4_ := f1_.symm; have f5_ := f3_.symm; clear f1_ f2_ f3_; subst f4_; subst f5_))
           obtain ⟨Ao38, co38, eo38⟩ := Kd.R_slice HO144.out
           (first | subst eo38 | (injection eo38 with f1_ f2_ f3_; have f4_ := f1_.symm; have f5_ := f3_.symm; clear f1_ f2_ f3_; subst f4_; subst f5_))
           refine hK.out _ _ ⟨bC0 BK119, bC1 BK119, bC2 BK119⟩ (fun hHeld => ?_)
           clear hK K
           refine normA_ ?_
           refine one_ (i := 7) (N := some 49) #[true, true, true, true, true, true, true, true, false, false, false] rfl rfl (one_of HT_.out (by kernel_rfl)) (by decide) (fun K hK => ?_)
           refine value_ (w1 := ?_) (v := ?_) (by rfl) rfl ?_ ?_
           rotate_left 2
           ·go_simp
            constructor
            ·rfl
            ·rfl
           refine hK.out _ _ ⟨(blk_cell (blk_alloc BK119.out _) 0).trans rfl, (blk_cell (blk_alloc BK119.out _) 1).trans rfl, (blk_cell (blk_alloc BK119.out _) 2).trans rfl⟩ (fun hHeld => ?_)
           clear hK K
           refine normA_ ?_
           refine one_ (i := 8) (N := some 50) #[true, true, true, true, true, true, true, true, true, false, false] rfl rfl (one_of HT_.out (by kernel_rfl)) (by decide) (fun K hK => ?_)
           refine Kd.R_append_step k27 w.heap.size (by rfl) (.tmp 43) (.tmp 49) 25 27 (.agg #[(.int .i64 0), (.slice none 0 0), (.slice none 0 0)]) 56 rfl Try.underlying25 info27 rfl (by decide) (by omega) u120002 x120002_2 (⟨t138, t139, t142⟩ : S27) [.int .i64 t138, .slice Ao37 t139.length co37, .slice Ao38 t142.length co38] (fun k_ => some k_ ≠ (u120001 : Value).ownBlock ∧ k_ ≠ gb118 ∧ k_ ≠ gb119) (fun k_ => ((fun k_ => some k_ ≠ (u120001 : Value).ownBlock ∧ k_ ≠ gb118 ∧ k_ ≠ gb119)) k_ ∧ some k_ ≠ (u120002 : Value).ownBlock) rfl rfl ?aP (fun _ hk => hk) ?aF ?aO (Below.refl _ _) ?aS ?aL ?_
           (case aP => exact k27_mkM _ _ _ (⟨t138, t139, t142⟩ : S27) (Kd.R_mono (Kd.R_types (Kd.R_types (Kd.R_apart' (HO141.out) (Kd.R_typed HO_120002.out) (by decide)) BK118.out (by decide)) BK119.out (by decide)) (fun k_ hk => ⟨⟨hk.1.1.1.2, ⟨hk.1.2, hk.2⟩⟩, hk.1.1.2⟩)) (Kd.R_mono (HO144.out) (fun k_ hk => ⟨⟨hk.1.1.1.2, ⟨hk.1.2, hk.2⟩⟩, hk.1.1.2⟩)))
           (case aF => exact (fun k_ hk => ⟨Kd.fresh' (Kd.R_lt (Kd.uR HO_120001)) k_ hk, Kd.freshB (bU BK118) k_ hk, Kd.freshB (bU BK119) k_ hk⟩))
           (case aO => exact (by (with_reducible repeat (first | apply Kd.R_alloc | apply Kd.R_drewN | apply Kd.R_drew)); exact Kd.R_mono HO_120002.out (fun _ hk => ⟨hk.1.1.1, ⟨hk.1.1.2.1, hk.1.1.2.2⟩⟩)))
           (case aS => exact (keep_size (w := w) (g := g) (row := none) (by repeat (first | (with_reducible first | exact HK.out | apply KeepBut.set_ | apply keep_drewN | apply keep_drew | apply keep_alloc | refine keep_far ?_ GW118.out _ | refine keep_far ?_ GW119.out _) | exact HK.out))))
           (case aL => have := LMc33.out; omega)
           intro v147 w36 ho hb hg hat
           rw [← Ny146.out] at ho
           replace HO_120001 := Aside0.mk (Kd.R_over' (Kd.uR HO_120001) (Kd.R_typed (Kd.uR HO_120002)) (by decide) hg)
           replace BK118 := Aside0.mk (blk_grown (bU BK118) hg (Kd.R_away HO_120002.out (fun _ hk => hk.1.1.2.1)))
           replace BK119 := Aside0.mk (blk_grown (bU BK119) hg (Kd.R_away HO_120002.out (fun _ hk => hk.1.1.2.2)))
           replace HI0 := Aside0.mk (IsS44.grown (iU HI0) hg (IsS44.own_ne HI0.out HO_120002.out (by decide)))
           replace HB := Aside0.mk (below_weaken (bB HB) HL.out hb)
           replace HK := Aside0.mk (KeepBut.trans (by repeat (first | (with_reducible first | exact HK.out | apply KeepBut.set_ | apply keep_drewN | apply keep_drew | apply keep_alloc | refine keep_far ?_ GW118.out _ | refine keep_far ?_ GW119.out _) | exact HK.out)) (KeepBut.of_grown hg g) (Kd.R_base2 HO_120002.out))
           have HO148 := Aside0.mk (ho)
           clear HO_120002
           clear HO141
           clear HO144
           clear ho hb hg hat
           obtain ⟨Ao39, co39, eo39⟩ := Kd.R_slice HO148.out
           (first | subst eo39 | (injection eo39 with f1_ f2_ f3_; have f4_ := f1_.symm; have f5_ := f3_.symm; clear f1_ f2_ f3_; subst f4_; subst f5_))
           refine hK.out _ _ ⟨bC0 BK119, bC1 BK119, bC2 BK119⟩ (fun hHeld => ?_)
           clear hK K
           refine normA_ ?_
           refine pureA_ 9 51 HT_ ?_
           refine last_ (i := 10) (N := none) #[true, true, true, true, true, true, true, true, true, true, true] rfl rfl (one_of HT_.out (by kernel_rfl)) (by decide) (fun K hK => ?_)
           have hs40 := bC2 BK119
           have hfs40 := blk_frozen BK119.out 2
           have hns40_0 := NB118_119.out
           have hms40_0 := NB119_118.out
           refine skip_ (w1 := ?_) (by rfl) rfl ?_ ?_
           rotate_left
           ·go_simp
            rfl
           refine hK.out _ _ ?_
           clear hK K
           refine done_ (done_of HT_.out (by kernel_rfl)) ?_
           try go_wp2
           go_roundg k2
           case measure => have := HK1.out; have := HK2.out; omega
           case rel => exact ⟨(wrap64 (x11_2 - 1)), (t145), (y146), (.slice Ao39 y146.length co39), (by first | rfl | (simp; done) | (simp [*]; done)), H', ⟨by have := HK1.out; have := HK2.out; omega⟩, ⟨by (with_reducible repeat (first | apply Kd.R_alloc | apply Kd.R_drewN | apply Kd.R_drew)); exact Kd.R_mono (Kd.R_ft1 (Kd.R_types HO_120001.out BK119.out (by decide))) (fun _ hk => trivial)⟩, ⟨by (with_reducible repeat (first | apply Kd.R_alloc | apply Kd.R_drewN | apply Kd.R_drew)); exact Kd.R_fw1 HO148.out (fun _ hk => hk.2.2)⟩, ⟨bF BK118⟩, ⟨by (with_reducible repeat (first | refine blk_drewN ?_ _ | refine blk_drew ?_ | refine blk_alloc ?_ _)); refine blk_put (cs := #[.int .i64 0, u120001, u120002]) ?_ 2 _ rfl; (with_reducible repeat (first | refine blk_drewN ?_ _ | refine blk_drew ?_ | refine blk_alloc ?_ _)); exact BK119.out⟩, ⟨iU HI0⟩, ⟨by repeat (first | (with_reducible first | exact HK.out | apply KeepBut.set_ | apply keep_drewN | apply keep_drew | apply keep_alloc | refine keep_far ?_ GW118.out _ | refine keep_far ?_ GW119.out _) | exact HK.out)⟩, ⟨bB HB⟩⟩
          ·rw [if_neg c33] at H
           exact absurd H (by simp)
         ·rw [if_neg c31] at H
          have c31b0 : decide (0 < x11_2) = false := decide_eq_false c31
          clear c31
          by_cases c41 : (x120002_2.length : Int) > 0
          ·rw [if_pos c41] at H
           have c41b0 : decide (0 < (x120002_2.length : Int)) = true := decide_eq_true c41
           have c41b1 : decide (0 < x120002_2.length) = true := decide_eq_true (by omega)
           clear c41
           replace H := Option.bind_eq_some_iff.mp H
           obtain ⟨⟨t149, t150⟩, A420, H⟩ := H
           replace H : (if t149 = 0 then ((trustquorummake_Tape_Range.f s0_0 t150 1 (wrap64 ((x120002_2.length : Int)))).bind fun bt151 => (some (bt151.1, ([] : List Int), x120002_2, bt151.2))) else ((trustquorummake_Tape_Range.f s0_0 t150 1 (wrap64 ((x120001_1.length : Int) + (x120002_2.length : Int)))).bind fun bt153 => (some (bt153.1, x120001_1, x120002_2, bt153.2)))) = some (r1, r2, r3, r4) := H
           have A42 := Aside0.mk A420
           clear A420
           by_cases c43 : t149 = 0
           ·rw [if_pos c43] at H
            have c43b0 : (t149 == 0) = true := beq_iff_eq.mpr c43
            have c43b1 : (t149 != 0) = false := bne_eq_false_iff_eq.mpr c43
            clear c43
            replace H := Option.bind_eq_some_iff.mp H
            obtain ⟨⟨t151, t152⟩, A440, H⟩ := H
            replace H : (some (t151, ([] : List Int), x120002_2, t152)) = some (r1, r2, r3, r4) := H
            have A44 := Aside0.mk A440
            clear A440
            simp only [Option.some.injEq, Prod.mk.injEq] at H
            obtain ⟨rfl, rfl, rfl, rfl⟩ := H
            have hnb45 := NB119_118.out
            have hnc45 := NB118_119.out
            have hnb46 := NB119_0.out
            have hnc46 := NB0_119.out
            have hcz47_0 := bC0 BK119
            have hcz47_1 := bC1 BK119
            have hcz47_2 := bC2 BK119
            have hfz47_0 := blk_frozen BK119.out 0
            have hfz47_1 := blk_frozen BK119.out 1
            have hfz47_2 := blk_frozen BK119.out 2
            obtain ⟨Ao48, co48, eo48⟩ := Kd.R_slice HO_120002.out
            subst eo48
            go_wp2_with (first | (go_at_call 10; (with_reducible refine (trustquorummake_Tape_N.calls g s0_0 x1001_2 3 t149 t150 w0 _ ?side1 ?side2 A42.out).mono ?_); (case side1 => exact iU HI0); (case side2 => exact bB HB); rintro e w49 ⟨rfl, hi, hb, hk⟩; replace HO_120001 := Aside0.mk (Kd.R_mono (Kd.R_keep (IsS44.apart (show IsS44 w0 _ g s0_0 x1001_2 from iU HI0) (Kd.uR HO_120001) (by decide)) hk (fun _ h => h.2)) (fun _ h => h.1)); replace HO_120002 := Aside0.mk (Kd.R_mono (Kd.R_keep (IsS44.apart (show IsS44 w0 _ g s0_0 x1001_2 from iU HI0) (Kd.uR HO_120002) (by decide)) hk (fun _ h => h.2)) (fun _ h => h.1)); replace BK118 := Aside0.mk (KeepBut.blk hk (bU BK118) NB118_0.out (by simp)); replace BK119 := Aside0.mk (KeepBut.blk hk (bU BK119) NB119_0.out (by simp)); replace HK := Aside0.mk (KeepBut.trans (by repeat (first | (with_reducible first | exact HK.out | apply KeepBut.set_ | apply keep_drewN | apply keep_drew | apply keep_alloc | refine keep_far ?_ GW118.out _ | refine keep_far ?_ GW119.out _) | exact HK.out)) hk (.inl rfl)); replace HB := Aside0.mk (hb); replace HI0 := Aside0.mk (hi); (try clear hb); (try clear hb2); (try clear hk); (try clear hi); have hcz50_0 := bC0 BK119; have hcz50_1 := bC1 BK119; have hcz50_2 := bC2 BK119; have hfz50_0 := blk_frozen BK119.out 0; have hfz50_1 := blk_frozen BK119.out 1; have hfz50_2 := blk_frozen BK119.out 2) | ((with_reducible refine gate_callee (f := 8) rfl ?_); refine goesA_ (some 70) rfl rfl Try.func8 rfl #[.pointer (some ⟨g, 0, none⟩), .int .i64 1, .int .i64 (wrap64 ((x120002_2.length : Int)))] rfl ?_; (with_reducible refine (trustquorummake_Tape_Range.calls g s0_0 t150 1 (wrap64 ((x120002_2.length : Int))) t151 t152 w0 _ ?side1 ?side2 A44.out).mono ?_); (case side1 => exact iU HI0); (case side2 => exact bB HB); rintro e w51 ⟨rfl, hi, hb, hk⟩; refine ⟨_, rfl, ?_⟩; replace HO_120001 := Aside0.mk (Kd.R_mono (Kd.R_keep (IsS44.apart (show IsS44 w0 _ g s0_0 t150 from iU HI0) (by (with_reducible repeat (first | apply Kd.R_alloc | apply Kd.R_drewN | apply Kd.R_drew)); exact (Kd.R_ft1 (Kd.R_types HO_120001.out BK119.out (by decide)))) (by decide)) hk (fun _ h => h.2)) (fun _ h => h.1)); replace HO_120002 := Aside0.mk (Kd.R_mono (Kd.R_keep (IsS44.apart (show IsS44 w0 _ g s0_0 t150 from iU HI0) (by (with_reducible repeat (first | apply Kd.R_alloc | apply Kd.R_drewN | apply Kd.R_drew)); exact (Kd.R_fw1 HO_120002.out (fun _ hk => hk.2.2))) (by decide)) hk (fun _ h => h.2)) (fun _ h => h.1)); replace BK118 := Aside0.mk (KeepBut.blk hk (g' := gb118) (o := .cells #[.int .i64 0, .slice none 0 0, .slice none 0 0] 27 (0, 0)) (bF BK118) NB118_0.out (by simp)); replace BK119 := Aside0.mk (KeepBut.blk hk (g' := gb119) (o := .cells #[.int .i64 0, .slice none 0 0, .slice Ao48 x120002_2.length co48] 27 (0, 0)) (by (with_reducible repeat (first | refine blk_drewN ?_ _ | refine blk_drew ?_ | refine blk_alloc ?_ _)); refine blk_put (cs := #[.int .i64 0, u120001, .slice Ao48 x120002_2.length co48]) ?_ 1 _ rfl; (with_reducible repeat (first | refine blk_drewN ?_ _ | refine blk_drew ?_ | refine blk_alloc ?_ _)); exact BK119.out) NB119_0.out (by simp)); replace HK := Aside0.mk (KeepBut.trans (by repeat (first | (with_reducible first | exact HK.out | apply KeepBut.set_ | apply keep_drewN | apply keep_drew | apply keep_alloc | refine keep_far ?_ GW118.out _ | refine keep_far ?_ GW119.out _) | exact HK.out)) hk (.inl rfl)); replace HB := Aside0.mk (hb); replace HI0 := Aside0.mk (hi); (try clear hb); (try clear hb2); (try clear hk); (try clear hi); have hcz52_0 := bC0 BK119; have hcz52_1 := bC1 BK119; have hcz52_2 := bC2 BK119; have hfz52_0 := blk_frozen BK119.out 0; have hfz52_1 := blk_frozen BK119.out 1; have hfz52_2 := blk_frozen BK119.out 2; have hnb53 := NB118_0.out; have hnc53 := NB0_118.out; have hcz54_0 := bC0 BK118; have hcz54_1 := bC1 BK118; have hcz54_2 := bC2 BK118; have hfz54_0 := blk_frozen BK118.out 0; have hfz54_1 := blk_frozen BK118.out 1; have hfz54_2 := blk_frozen BK118.out 2))
            refine bodyPost_ret (results_cell_row rfl _ _ gb118 27 #[.int .i64 t151, .slice none 0 0, .slice Ao48 x120002_2.length co48] (0, 0) _ rfl (by (with_reducible repeat (first | refine blk_drewN ?_ _ | refine blk_drew ?_ | refine blk_alloc ?_ _)); refine blk_put (cs := #[.int .i64 t151, .slice none 0 0, .slice none 0 0]) ?_ 2 _ rfl; (with_reducible repeat (first | refine blk_drewN ?_ _ | refine blk_drew ?_ | refine blk_alloc ?_ _)); refine blk_put (cs := #[.int .i64 t151, .slice none 0 0, .slice none 0 0]) ?_ 1 _ rfl; (with_reducible repeat (first | refine blk_drewN ?_ _ | refine blk_drew ?_ | refine blk_alloc ?_ _)); refine blk_put (cs := #[.int .i64 0, .slice none 0 0, .slice none 0 0]) ?_ 0 _ rfl; (with_reducible repeat (first | refine blk_drewN ?_ _ | refine blk_drew ?_ | refine blk_alloc ?_ _)); refine blk_far ?_ NB118_119.out _; (with_reducible repeat (first | refine blk_drewN ?_ _ | refine blk_drew ?_ | refine blk_alloc ?_ _)); exact BK118.out) Try.underlying27 rfl (by kernel_rfl)) rfl ?_
            exact ⟨_, _, by first | rfl | (simp [errW_none, errW_some] <;> rfl) | (simp only [← hji5]; first | rfl | (simp [errW_none, errW_some] <;> rfl)) | (simp [*, errW_none, errW_some] <;> rfl), by first | exact Kd.R_nil _ _ _ _ _ | exact Kd.N_nil _ _ _ _ _ | exact Kd.V_nil _ _ _ _ _ | exact Kd.Q_nil _ _ _ _ _ | exact Kd.S_nil _ _ _ _ _, by (with_reducible repeat (first | apply Kd.R_alloc | apply Kd.R_drewN | apply Kd.R_drew)); exact Kd.R_mono (Kd.R_fw3 (Kd.R_fw1 HO_120002.out (fun _ hk => hk.2.2)) (fun _ hk => hk.2.1)) (fun _ hk => (by simp [Value.ownBlock])), iU HI0, bB HB, by repeat (first | (with_reducible first | exact HK.out | apply KeepBut.set_ | apply keep_drewN | apply keep_drew | apply keep_alloc | refine keep_far ?_ GW118.out _ | refine keep_far ?_ GW119.out _) | exact HK.out)⟩
           ·rw [if_neg c43] at H
            have c43b0 : (t149 == 0) = false := beq_eq_false_iff_ne.mpr c43
            have c43b1 : (t149 != 0) = true := bne_iff_ne.mpr c43
            replace H := Option.bind_eq_some_iff.mp H
            obtain ⟨⟨t153, t154⟩, A550, H⟩ := H
            replace H : (some (t153, x120001_1, x120002_2, t154)) = some (r1, r2, r3, r4) := H
            have A55 := Aside0.mk A550
            clear A550
            simp only [Option.some.injEq, Prod.mk.injEq] at H
            obtain ⟨rfl, rfl, rfl, rfl⟩ := H
            have hnb56 := NB119_118.out
            have hnc56 := NB118_119.out
            have hnb57 := NB119_0.out
            have hnc57 := NB0_119.out
            have hcz58_0 := bC0 BK119
            have hcz58_1 := bC1 BK119
            have hcz58_2 := bC2 BK119
            have hfz58_0 := blk_frozen BK119.out 0
            have hfz58_1 := blk_frozen BK119.out 1
            have hfz58_2 := blk_frozen BK119.out 2
            obtain ⟨Ao59, co59, eo59⟩ := Kd.R_slice HO_120002.out
            subst eo59
            go_wp2_with (first | (go_at_call 10; (with_reducible refine (trustquorummake_Tape_N.calls g s0_0 x1001_2 3 t149 t150 w0 _ ?side1 ?side2 A42.out).mono ?_); (case side1 => exact iU HI0); (case side2 => exact bB HB); rintro e w60 ⟨rfl, hi, hb, hk⟩; replace HO_120001 := Aside0.mk (Kd.R_mono (Kd.R_keep (IsS44.apart (show IsS44 w0 _ g s0_0 x1001_2 from iU HI0) (Kd.uR HO_120001) (by decide)) hk (fun _ h => h.2)) (fun _ h => h.1)); replace HO_120002 := Aside0.mk (Kd.R_mono (Kd.R_keep (IsS44.apart (show IsS44 w0 _ g s0_0 x1001_2 from iU HI0) (Kd.uR HO_120002) (by decide)) hk (fun _ h => h.2)) (fun _ h => h.1)); replace BK118 := Aside0.mk (KeepBut.blk hk (bU BK118) NB118_0.out (by simp)); replace BK119 := Aside0.mk (KeepBut.blk hk (bU BK119) NB119_0.out (by simp)); replace HK := Aside0.mk (KeepBut.trans (by repeat (first | (with_reducible first | exact HK.out | apply KeepBut.set_ | apply keep_drewN | apply keep_drew | apply keep_alloc | refine keep_far ?_ GW118.out _ | refine keep_far ?_ GW119.out _) | exact HK.out)) hk (.inl rfl)); replace HB := Aside0.mk (hb); replace HI0 := Aside0.mk (hi); (try clear hb); (try clear hb2); (try clear hk); (try clear hi); have hcz61_0 := bC0 BK119; have hcz61_1 := bC1 BK119; have hcz61_2 := bC2 BK119; have hfz61_0 := blk_frozen BK119.out 0; have hfz61_1 := blk_frozen BK119.out 1; have hfz61_2 := blk_frozen BK119.out 2; obtain ⟨Ao62, co62, eo62⟩ := Kd.R_slice HO_120001.out; subst eo62) | ((with_reducible refine gate_callee (f := 8) rfl ?_); refine goesA_ (some 70) rfl rfl Try.func8 rfl #[.pointer (some ⟨g, 0, none⟩), .int .i64 1, .int .i64 (wrap64 ((x120001_1.length : Int) + (x120002_2.length : Int)))] rfl ?_; (with_reducible refine (trustquorummake_Tape_Range.calls g s0_0 t150 1 (wrap64 ((x120001_1.length : Int) + (x120002_2.length : Int))) t153 t154 w0 _ ?side1 ?side2 A55.out).mono ?_); (case side1 => exact iU HI0); (case side2 => exact bB HB); rintro e w63 ⟨rfl, hi, hb, hk⟩; refine ⟨_, rfl, ?_⟩; replace HO_120001 := Aside0.mk (Kd.R_mono (Kd.R_keep (IsS44.apart (show IsS44 w0 _ g s0_0 t150 from iU HI0) (Kd.uR HO_120001) (by decide)) hk (fun _ h => h.2)) (fun _ h => h.1)); replace HO_120002 := Aside0.mk (Kd.R_mono (Kd.R_keep (IsS44.apart (show IsS44 w0 _ g s0_0 t150 from iU HI0) (Kd.uR HO_120002) (by decide)) hk (fun _ h => h.2)) (fun _ h => h.1)); replace BK118 := Aside0.mk (KeepBut.blk hk (bU BK118) NB118_0.out (by simp)); replace BK119 := Aside0.mk (KeepBut.blk hk (bU BK119) NB119_0.out (by simp)); replace HK := Aside0.mk (KeepBut.trans (by repeat (first | (with_reducible first | exact HK.out | apply KeepBut.set_ | apply keep_drewN | apply keep_drew | apply keep_alloc | refine keep_far ?_ GW118.out _ | refine keep_far ?_ GW119.out _) | exact HK.out)) hk (.inl rfl)); replace HB := Aside0.mk (hb); replace HI0 := Aside0.mk (hi); (try clear hb); (try clear hb2); (try clear hk); (try clear hi); have hcz64_0 := bC0 BK119; have hcz64_1 := bC1 BK119; have hcz64_2 := bC2 BK119; have hfz64_0 := blk_frozen BK119.out 0; have hfz64_1 := blk_frozen BK119.out 1; have hfz64_2 := blk_frozen BK119.out 2; have hnb65 := NB118_0.out; have hnc65 := NB0_118.out; have hcz66_0 := bC0 BK118; have hcz66_1 := bC1 BK118; have hcz66_2 := bC2 BK118; have hfz66_0 := blk_frozen BK118.out 0; have hfz66_1 := blk_frozen BK118.out 1; have hfz66_2 := blk_frozen BK118.out 2))
            refine bodyPost_ret (results_cell_row rfl _ _ gb118 27 #[.int .i64 t153, .slice Ao62 x120001_1.length co62, .slice Ao59 x120002_2.length co59] (0, 0) _ rfl (by (with_reducible repeat (first | refine blk_drewN ?_ _ | refine blk_drew ?_ | refine blk_alloc ?_ _)); refine blk_put (cs := #[.int .i64 t153, .slice Ao62 x120001_1.length co62, .slice none 0 0]) ?_ 2 _ rfl; (with_reducible repeat (first | refine blk_drewN ?_ _ | refine blk_drew ?_ | refine blk_alloc ?_ _)); refine blk_put (cs := #[.int .i64 t153, .slice none 0 0, .slice none 0 0]) ?_ 1 _ rfl; (with_reducible repeat (first | refine blk_drewN ?_ _ | refine blk_drew ?_ | refine blk_alloc ?_ _)); refine blk_put (cs := #[.int .i64 0, .slice none 0 0, .slice none 0 0]) ?_ 0 _ rfl; (with_reducible repeat (first | refine blk_drewN ?_ _ | refine blk_drew ?_ | refine blk_alloc ?_ _)); refine blk_far ?_ NB118_119.out _; (with_reducible repeat (first | refine blk_drewN ?_ _ | refine blk_drew ?_ | refine blk_alloc ?_ _)); exact BK118.out) Try.underlying27 rfl (by kernel_rfl)) rfl ?_
            exact ⟨_, _, by first | rfl | (simp [errW_none, errW_some] <;> rfl) | (simp only [← hji5]; first | rfl | (simp [errW_none, errW_some] <;> rfl)) | (simp [*, errW_none, errW_some] <;> rfl), by (with_reducible repeat (first | apply Kd.R_alloc | apply Kd.R_drewN | apply Kd.R_drew)); exact Kd.R_mono (Kd.R_far (p := ⟨gb118, 2, none⟩) (Kd.R_far (p := ⟨gb118, 1, none⟩) (Kd.R_far (p := ⟨gb118, 0, none⟩) (Kd.R_far (p := ⟨gb119, 0, none⟩) (Kd.R_types (Kd.R_types HO_120001.out BK119.out (by decide)) BK118.out (by decide)) (fun _ hk => hk.1.2) (.int .i64 t153)) (fun _ hk => hk.2) (.int .i64 t153)) (fun _ hk => hk.2) (.slice Ao62 x120001_1.length co62)) (fun _ hk => hk.2) (.slice Ao59 x120002_2.length co59)) (fun _ hk => trivial), by (with_reducible repeat (first | apply Kd.R_alloc | apply Kd.R_drewN | apply Kd.R_drew)); exact Kd.R_mono (Kd.R_fw3 (Kd.R_fw1 HO_120002.out (fun _ hk => hk.2.2)) (fun _ hk => hk.2.1)) (fun _ hk => hk.1), iU HI0, bB HB, by repeat (first | (with_reducible first | exact HK.out | apply KeepBut.set_ | apply keep_drewN | apply keep_drew | apply keep_alloc | refine keep_far ?_ GW118.out _ | refine keep_far ?_ GW119.out _) | exact HK.out)⟩
          ·rw [if_neg c41] at H
           have c41b0 : decide (0 < (x120002_2.length : Int)) = false := decide_eq_false c41
           have c41b1 : decide (0 < x120002_2.length) = false := decide_eq_false (by omega)
           clear c41
           replace H := Option.bind_eq_some_iff.mp H
           obtain ⟨⟨t155, t156⟩, A670, H⟩ := H
           replace H : (some (t155, x120001_1, x120002_2, t156)) = some (r1, r2, r3, r4) := H
           have A67 := Aside0.mk A670
           clear A670
           simp only [Option.some.injEq, Prod.mk.injEq] at H
           obtain ⟨rfl, rfl, rfl, rfl⟩ := H
           have hnb68 := NB119_118.out
           have hnc68 := NB118_119.out
           have hnb69 := NB119_0.out
           have hnc69 := NB0_119.out
           have hcz70_0 := bC0 BK119
           have hcz70_1 := bC1 BK119
           have hcz70_2 := bC2 BK119
           have hfz70_0 := blk_frozen BK119.out 0
           have hfz70_1 := blk_frozen BK119.out 1
           have hfz70_2 := blk_frozen BK119.out 2
           obtain ⟨Ao71, co71, eo71⟩ := Kd.R_slice HO_120002.out
           subst eo71
           obtain ⟨Ao72, co72, eo72⟩ := Kd.R_slice HO_120001.out
           subst eo72
           go_wp2_with (first | ((with_reducible refine gate_callee (f := 8) rfl ?_); refine goesA_ (some 70) rfl rfl Try.func8 rfl #[.pointer (some ⟨g, 0, none⟩), .int .i64 1, .int .i64 (wrap64 ((x120001_1.length : Int) + (x120002_2.length : Int)))] rfl ?_; (with_reducible refine (trustquorummake_Tape_Range.calls g s0_0 x1001_2 1 (wrap64 ((x120001_1.length : Int) + (x120002_2.length : Int))) t155 t156 w0 _ ?side1 ?side2 A67.out).mono ?_); (case side1 => exact iU HI0); (case side2 => exact bB HB); rintro e w73 ⟨rfl, hi, hb, hk⟩; refine ⟨_, rfl, ?_⟩; replace HO_120001 := Aside0.mk (Kd.R_mono (Kd.R_keep (IsS44.apart (show IsS44 w0 _ g s0_0 x1001_2 from iU HI0) (Kd.uR HO_120001) (by decide)) hk (fun _ h => h.2)) (fun _ h => h.1)); replace HO_120002 := Aside0.mk (Kd.R_mono (Kd.R_keep (IsS44.apart (show IsS44 w0 _ g s0_0 x1001_2 from iU HI0) (Kd.uR HO_120002) (by decide)) hk (fun _ h => h.2)) (fun _ h => h.1)); replace BK118 := Aside0.mk (KeepBut.blk hk (bU BK118) NB118_0.out (by simp)); replace BK119 := Aside0.mk (KeepBut.blk hk (bU BK119) NB119_0.out (by simp)); replace HK := Aside0.mk (KeepBut.trans (by repeat (first | (with_reducible first | exact HK.out | apply KeepBut.set_ | apply keep_drewN | apply keep_drew | apply keep_alloc | refine keep_far ?_ GW118.out _ | refine keep_far ?_ GW119.out _) | exact HK.out)) hk (.inl rfl)); replace HB := Aside0.mk (hb); replace HI0 := Aside0.mk (hi); (try clear hb); (try clear hb2); (try clear hk); (try clear hi); have hcz74_0 := bC0 BK119; have hcz74_1 := bC1 BK119; have hcz74_2 := bC2 BK119; have hfz74_0 := blk_frozen BK119.out 0; have hfz74_1 := blk_frozen BK119.out 1; have hfz74_2 := blk_frozen BK119.out 2; have hnb75 := NB118_0.out; have hnc75 := NB0_118.out; have hcz76_0 := bC0 BK118; have hcz76_1 := bC1 BK118; have hcz76_2 := bC2 BK118; have hfz76_0 := blk_frozen BK118.out 0; have hfz76_1 := blk_frozen BK118.out 1; have hfz76_2 := blk_frozen BK118.out 2))
           refine bodyPost_ret (results_cell_row rfl _ _ gb118 27 #[.int .i64 t155, .slice Ao72 x120001_1.length co72, .slice Ao71 x120002_2.length co71] (0, 0) _ rfl (by (with_reducible repeat (first | refine blk_drewN ?_ _ | refine blk_drew ?_ | refine blk_alloc ?_ _)); refine blk_put (cs := #[.int .i64 t155, .slice Ao72 x120001_1.length co72, .slice none 0 0]) ?_ 2 _ rfl; (with_reducible repeat (first | refine blk_drewN ?_ _ | refine blk_drew ?_ | refine blk_alloc ?_ _)); refine blk_put (cs := #[.int .i64 t155, .slice none 0 0, .slice none 0 0]) ?_ 1 _ rfl; (with_reducible repeat (first | refine blk_drewN ?_ _ | refine blk_drew ?_ | refine blk_alloc ?_ _)); refine blk_put (cs := #[.int .i64 0, .slice none 0 0, .slice none 0 0]) ?_ 0 _ rfl; (with_reducible repeat (first | refine blk_drewN ?_ _ | refine blk_drew ?_ | refine blk_alloc ?_ _)); refine blk_far ?_ NB118_119.out _; (with_reducible repeat (first | refine blk_drewN ?_ _ | refine blk_drew ?_ | refine blk_alloc ?_ _)); exact BK118.out) Try.underlying27 rfl (by kernel_rfl)) rfl ?_
           exact ⟨_, _, by first | rfl | (simp [errW_none, errW_some] <;> rfl) | (simp only [← hji5]; first | rfl | (simp [errW_none, errW_some] <;> rfl)) | (simp [*, errW_none, errW_some] <;> rfl), by (with_reducible repeat (first | apply Kd.R_alloc | apply Kd.R_drewN | apply Kd.R_drew)); exact Kd.R_mono (Kd.R_far (p := ⟨gb118, 2, none⟩) (Kd.R_far (p := ⟨gb118, 1, none⟩) (Kd.R_far (p := ⟨gb118, 0, none⟩) (Kd.R_far (p := ⟨gb119, 0, none⟩) (Kd.R_types (Kd.R_types HO_120001.out BK119.out (by decide)) BK118.out (by decide)) (fun _ hk => hk.1.2) (.int .i64 t155)) (fun _ hk => hk.2) (.int .i64 t155)) (fun _ hk => hk.2) (.slice Ao72 x120001_1.length co72)) (fun _ hk => hk.2) (.slice Ao71 x120002_2.length co71)) (fun _ hk => trivial), by (with_reducible repeat (first | apply Kd.R_alloc | apply Kd.R_drewN | apply Kd.R_drew)); exact Kd.R_mono (Kd.R_fw3 (Kd.R_fw1 HO_120002.out (fun _ hk => hk.2.2)) (fun _ hk => hk.2.1)) (fun _ hk => hk.1), iU HI0, bB HB, by repeat (first | (with_reducible first | exact HK.out | apply KeepBut.set_ | apply keep_drewN | apply keep_drew | apply keep_alloc | refine keep_far ?_ GW118.out _ | refine keep_far ?_ GW119.out _) | exact HK.out)⟩
      ·rw [if_neg c25] at H
       have c25b0 : decide (1 < a2) = false := decide_eq_false c25
       clear c25
       replace H := Option.bind_eq_some_iff.mp H
       obtain ⟨⟨t157, t158⟩, A770, H⟩ := H
       replace H : (some (t157, x120001_1, ([] : List (S27)), t158)) = some (r1, r2, r3, r4) := H
       have A77 := Aside0.mk A770
       clear A770
       simp only [Option.some.injEq, Prod.mk.injEq] at H
       obtain ⟨rfl, rfl, rfl, rfl⟩ := H
       have hnb78 := NB119_118.out
       have hnc78 := NB118_119.out
       have hnb79 := NB119_0.out
       have hnc79 := NB0_119.out
       have hcz80_0 := bC0 BK119
       have hcz80_1 := bC1 BK119
       have hcz80_2 := bC2 BK119
       have hfz80_0 := blk_frozen BK119.out 0
       have hfz80_1 := blk_frozen BK119.out 1
       have hfz80_2 := blk_frozen BK119.out 2
       obtain ⟨Ao81, co81, eo81⟩ := Kd.R_slice HO_120001.out
       subst eo81
       go_wp2_with (first | ((with_reducible refine gate_callee (f := 8) rfl ?_); refine goesA_ (some 70) rfl rfl Try.func8 rfl #[.pointer (some ⟨g, 0, none⟩), .int .i64 1, .int .i64 (wrap64 ((x120001_1.length : Int) + (([] : List (S27)).length : Int)))] rfl ?_; (with_reducible refine (trustquorummake_Tape_Range.calls g s0_0 t125 1 (wrap64 ((x120001_1.length : Int) + (([] : List (S27)).length : Int))) t157 t158 w0 _ ?side1 ?side2 A77.out).mono ?_); (case side1 => exact iU HI0); (case side2 => exact bB HB); rintro e w82 ⟨rfl, hi, hb, hk⟩; refine ⟨_, rfl, ?_⟩; replace HO_20 := Aside0.mk (Kd.R_mono (Kd.R_keep (IsS44.apart (show IsS44 w0 _ g s0_0 t125 from iU HI0) (Kd.uR HO_20) (by decide)) hk (fun _ h => h.2)) (fun _ h => h.1)); replace HO_120001 := Aside0.mk (Kd.R_mono (Kd.R_keep (IsS44.apart (show IsS44 w0 _ g s0_0 t125 from iU HI0) (Kd.uR HO_120001) (by decide)) hk (fun _ h => h.2)) (fun _ h => h.1)); replace BK118 := Aside0.mk (KeepBut.blk hk (bU BK118) NB118_0.out (by simp)); replace BK119 := Aside0.mk (KeepBut.blk hk (bU BK119) NB119_0.out (by simp)); replace HK := Aside0.mk (KeepBut.trans (by repeat (first | (with_reducible first | exact HK.out | apply KeepBut.set_ | apply keep_drewN | apply keep_drew | apply keep_alloc | refine keep_far ?_ GW118.out _ | refine keep_far ?_ GW119.out _) | exact HK.out)) hk (.inl rfl)); replace HB := Aside0.mk (hb); replace HI0 := Aside0.mk (hi); (try clear hb); (try clear hb2); (try clear hk); (try clear hi); have hcz83_0 := bC0 BK119; have hcz83_1 := bC1 BK119; have hcz83_2 := bC2 BK119; have hfz83_0 := blk_frozen BK119.out 0; have hfz83_1 := blk_frozen BK119.out 1; have hfz83_2 := blk_frozen BK119.out 2; have hnb84 := NB118_0.out; have hnc84 := NB0_118.out; have hcz85_0 := bC0 BK118; have hcz85_1 := bC1 BK118; have hcz85_2 := bC2 BK118; have hfz85_0 := blk_frozen BK118.out 0; have hfz85_1 := blk_frozen BK118.out 1; have hfz85_2 := blk_frozen BK118.out 2))
       refine bodyPost_ret (results_cell_row rfl _ _ gb118 27 #[.int .i64 t157, .slice Ao81 x120001_1.length co81, .slice none 0 0] (0, 0) _ rfl (by (with_reducible repeat (first | refine blk_drewN ?_ _ | refine blk_drew ?_ | refine blk_alloc ?_ _)); refine blk_put (cs := #[.int .i64 t157, .slice Ao81 x120001_1.length co81, .slice none 0 0]) ?_ 2 _ rfl; (with_reducible repeat (first | refine blk_drewN ?_ _ | refine blk_drew ?_ | refine blk_alloc ?_ _)); refine blk_put (cs := #[.int .i64 t157, .slice none 0 0, .slice none 0 0]) ?_ 1 _ rfl; (with_reducible repeat (first | refine blk_drewN ?_ _ | refine blk_drew ?_ | refine blk_alloc ?_ _)); refine blk_put (cs := #[.int .i64 0, .slice none 0 0, .slice none 0 0]) ?_ 0 _ rfl; (with_reducible repeat (first | refine blk_drewN ?_ _ | refine blk_drew ?_ | refine blk_alloc ?_ _)); refine blk_far ?_ NB118_119.out _; (with_reducible repeat (first | refine blk_drewN ?_ _ | refine blk_drew ?_ | refine blk_alloc ?_ _)); exact BK118.out) Try.underlying27 rfl (by kernel_rfl)) rfl ?_
       exact ⟨_, _, by first | rfl | (simp [errW_none, errW_some] <;> rfl) | (simp only [← hji5]; first | rfl | (simp [errW_none, errW_some] <;> rfl)) | (simp [*, errW_none, errW_some] <;> rfl), by (with_reducible repeat (first | apply Kd.R_alloc | apply Kd.R_drewN | apply Kd.R_drew)); exact Kd.R_mono (Kd.R_far (p := ⟨gb118, 2, none⟩) (Kd.R_far (p := ⟨gb118, 1, none⟩) (Kd.R_far (p := ⟨gb118, 0, none⟩) (Kd.R_far (p := ⟨gb119, 0, none⟩) (Kd.R_types (Kd.R_types HO_120001.out BK119.out (by decide)) BK118.out (by decide)) (fun _ hk => hk.1.2) (.int .i64 t157)) (fun _ hk => hk.2) (.int .i64 t157)) (fun _ hk => hk.2) (.slice Ao81 x120001_1.length co81)) (fun _ hk => hk.2) (.slice none 0 0)) (fun _ hk => trivial), by first | exact Kd.R_nil _ _ _ _ _ | exact Kd.N_nil _ _ _ _ _ | exact Kd.V_nil _ _ _ _ _ | exact Kd.Q_nil _ _ _ _ _ | exact Kd.S_nil _ _ _ _ _, iU HI0, bB HB, by repeat (first | (with_reducible first | exact HK.out | apply KeepBut.set_ | apply keep_drewN | apply keep_drew | apply keep_alloc | refine keep_far ?_ GW118.out _ | refine keep_far ?_ GW119.out _) | exact HK.out)⟩
  ·rw [if_neg c8] at H
   exact absurd H (by simp)
 ·rw [if_neg c7] at H
  exact absurd H (by simp)
mutual
def trustquorumref02_Depth.l0 : Nat → Int → List (S27) → Int → Int → Option (Int)
 | 0, _, _, _, _ => none
 | k + 1, x3, x7, x8, x9 => if x9 < x8 then (if 0 ≤ x9 then (if x9 < (x7.length : Int) then ((trustquorumref02_Depth.f k ((rd_T27 x7 x9).f0) ((rd_T27 x7 x9).f1) ((rd_T27 x7 x9).f2)).bind fun t162 => (trustquorumref02_Depth.l0 k (mx x3 t162) x7 x8 (wrap64 (x9 + 1)))) else (none)) else (none)) else (some (wrap64 (x3 + 1)))
def trustquorumref02_Depth.f : Nat → Int → List Int → List (S27) → Option (Int)
 | 0, _, _, _ => none
 | k + 1, a0_0, l0_1, l0_2 => trustquorumref02_Depth.l0 k 0 l0_2 (l0_2.length : Int) 0
end
set_option maxHeartbeats 8000000 in
set_option maxRecDepth 100000 in
theorem trustquorumref02_Depth.calls (k : Nat) : ∀ (a0_0 : Int) (A0_1 : Option Addr) (c0_1 : Nat) (l0_1 : List Int) (A0_2 : Option Addr) (c0_2 : Nat) (l0_2 : List (S27)) (r : Int) (w : World) (hr0_1 : Kd.C (Kd.int .i64) w A0_1 l0_1.length l0_1) (hc0_1 : l0_1.length ≤ c0_1) (hr0_2 : Kd.C k27 w A0_2 l0_2.length l0_2) (hc0_2 : l0_2.length ≤ c0_2) (h : trustquorumref02_Depth.f k a0_0 l0_1 l0_2 = some r),
 Calls Try.prog 38 #[.agg #[.int .i64 a0_0, .slice A0_1 l0_1.length c0_1, .slice A0_2 l0_2.length c0_2]] w fun e w' => e = .returned (.int .i64 r) ∧ Below w.heap.size w w' := by
 induction k using Nat.strongRecOn with
 | _ k ih =>
 intro a0_0 A0_1 c0_1 l0_1 A0_2 c0_2 l0_2 r w hr0_1 hc0_1 hr0_2 hc0_2 h
 cases k with
 | zero => exact absurd h (by simp [trustquorumref02_Depth.f])
 | succ k =>
 simp only [trustquorumref02_Depth.f] at h
 have hu27 := Try.underlying27
 have HR0_1 := Aside0.mk hr0_1
 have HC0_1 := Aside0.mk hc0_1
 clear hr0_1 hc0_1
 have HR0_2 := Aside0.mk hr0_2
 have HC0_2 := Aside0.mk hc0_2
 clear hr0_2 hc0_2
 have HB := Aside0.mk (Below.refl w.heap.size w)
 have H : (trustquorumref02_Depth.l0 k 0 l0_2 (l0_2.length : Int) 0) = some r := h
 clear h
 have H' := Aside0.mk H
 clear H
 go_enter Try.func38, Try.ntmps38
 go_wp2_with (first | ((with_reducible refine gate_dst (N := 1) rfl ?_); refine box_event ?hg (N := 1) ?hd (cs := #[.int .i64 a0_0, .slice A0_1 l0_1.length c0_1, .slice A0_2 l0_2.length c0_2]) (t := 27) ?hr ?_; (case hd => rfl); (case hg => rfl); (case hr => first | (go_simp; done) | (go_simp; rfl)); intro gb159 hg w2 hbox hb; have BK159 := Aside0.mk (hbox); have GW159 := Aside0.mk ((by rw [hg]; exact (below_size (bB HB)) : w.heap.size ≤ gb159)); have GE159 := Aside0.mk ((by rw [hg]; exact (below_size (bB HB)) : w.heap.size ≤ gb159)); replace HB := bs HB hb; clear hb hbox hg; have hcz3_0 := bC0 BK159; have hcz3_1 := bC1 BK159; have hcz3_2 := bC2 BK159; have hfz3_0 := blk_frozen BK159.out 0; have hfz3_1 := blk_frozen BK159.out 1; have hfz3_2 := blk_frozen BK159.out 2))
 go_loopg [3, 9] k (fun kq v3 v9 w' => ∃ (x3_1 : Int) (x9_1 : Int), v3 = .int .i64 x3_1 ∧ v9 = .int .i64 x9_1 ∧ Aside0 (trustquorumref02_Depth.l0 kq x3_1 l0_2 (l0_2.length : Int) x9_1 = some r) ∧ Aside0 (kq ≤ k) ∧ Aside0 (w'.heap[gb159]? = some (.cells #[.int .i64 a0_0, (.slice A0_1 l0_1.length c0_1), (.slice A0_2 l0_2.length c0_2)] 27 (0, 0))) ∧ Aside0 (Below w.heap.size w w'))
 case atStart => exact ⟨(0), (0), (by first | rfl | (simp; done) | (simp [*]; done)), (by first | rfl | (simp; done) | (simp [*]; done)), H', ⟨Nat.le_refl _⟩, ⟨bU BK159⟩, ⟨bB HB⟩⟩
 case round =>
  clear H'
  try clear p2
  try clear c3
  try clear hcz3_0
  try clear hcz3_1
  try clear hcz3_2
  try clear hfz3_0
  try clear hfz3_1
  try clear hfz3_2
  obtain ⟨x3_1, x9_1, rfl, rfl, HA, HK1, BK159, HB⟩ := hrel
  cases gk with
  | zero => exact absurd HA.out (by simp [trustquorumref02_Depth.l0])
  | succ k1 =>
   have H := HA.out
   clear HA
   simp only [trustquorumref02_Depth.l0] at H
   by_cases c4 : x9_1 < (l0_2.length : Int)
   ·rw [if_pos c4] at H
    have c4b0 : decide (x9_1 < (l0_2.length : Int)) = true := decide_eq_true c4
    clear c4
    by_cases c5 : 0 ≤ x9_1
    ·rw [if_pos c5] at H
     have c5b0 : decide (0 ≤ x9_1) = true := decide_eq_true c5
     clear c5
     by_cases c6 : x9_1 < (l0_2.length : Int)
     ·rw [if_pos c6] at H
      have c6b0 : decide (x9_1 < (l0_2.length : Int)) = true := decide_eq_true c6
      clear c6
      replace H := Option.bind_eq_some_iff.mp H
      obtain ⟨t162, A70, H⟩ := H
      replace H : (trustquorumref02_Depth.l0 k1 (mx x3_1 t162) l0_2 (l0_2.length : Int) (wrap64 (x9_1 + 1))) = some r := H
      have A7 := Aside0.mk A70
      clear A70
      obtain ⟨ji8, hji8⟩ : ∃ j_ : Int, (mx x3_1 t162) = j_ := ⟨_, rfl⟩
      replace H : (trustquorumref02_Depth.l0 k1 ji8 l0_2 (l0_2.length : Int) (wrap64 (x9_1 + 1))) = some r := by first | (rw [hji8] at H; exact H) | (simp only [hji8] at H ⊢; exact H)
      (try rw [hji8] at A7)
      have hji8_ : (if x3_1 < t162 then t162 else x3_1) = ji8 := hji8
      have H' := Aside0.mk H
      clear H
      have p160 : 0 ≤ (x9_1 : Int) := of_decide_eq_true (by first | (with_reducible assumption) | assumption)
      have q160 : x9_1 < (l0_2.length : Int) := of_decide_eq_true (by first | (with_reducible assumption) | assumption)
      obtain ⟨ad160, A160_1, c160_1, A160_2, c160_2, e160, hx160_0, hx160_1, hx160_2, hl160_1, hi160_1, hl160_2, hi160_2⟩ := at_T27 HR0_2.out x9_1 p160 q160
      cases e160
      replace hx160_0 := (HB.out.cell (World.block_lt_of_cell? w _ hx160_0)).trans hx160_0
      replace hx160_1 := (HB.out.cell (World.block_lt_of_cell? w _ hx160_1)).trans hx160_1
      replace hx160_2 := (HB.out.cell (World.block_lt_of_cell? w _ hx160_2)).trans hx160_2
      have HR160_1 := Aside0.mk hi160_1
      have HC160_1 := Aside0.mk hl160_1
      clear hi160_1 hl160_1
      have HR160_2 := Aside0.mk hi160_2
      have HC160_2 := Aside0.mk hl160_2
      clear hi160_2 hl160_2
      replace p160 := eq_true p160
      replace q160 := eq_true q160
      go_wp2_with (first | ((with_reducible refine gate_dst (N := 5) rfl ?_); refine box_event ?hg (N := 5) ?hd (cs := #[.int .i64 0, .slice none 0 0, .slice none 0 0]) (t := 27) ?hr ?_; (case hd => rfl); (case hg => rfl); (case hr => first | (go_simp; done) | (go_simp; rfl)); intro gb161 hg w9 hbox hb; have BK161 := Aside0.mk (hbox); have GW161 := Aside0.mk ((by rw [hg]; exact (below_size (bB HB)) : w.heap.size ≤ gb161)); have GE161 := Aside0.mk ((by rw [hg]; exact (below_size (bB HB)) : w.heap.size ≤ gb161)); replace HB := bs HB hb; have NB159_161 := Aside0.mk ((by rw [hg]; exact Nat.ne_of_lt (blk_lt (bU BK159)) : gb159 ≠ gb161)); have NB161_159 := Aside0.mk ((by rw [hg]; exact Nat.ne_of_gt (blk_lt (bU BK159)) : gb161 ≠ gb159)); replace BK159 := bb BK159 hb; clear hb hbox hg; have hnb10 := NB161_159.out; have hnc10 := NB159_161.out; have hcz11_0 := bC0 BK161; have hcz11_1 := bC1 BK161; have hcz11_2 := bC2 BK161; have hfz11_0 := blk_frozen BK161.out 0; have hfz11_1 := blk_frozen BK161.out 1; have hfz11_2 := blk_frozen BK161.out 2) | ((with_reducible refine gate_callee (f := 38) rfl ?_); refine goesA_ (some 15) rfl rfl Try.func38 rfl #[.agg #[.int .i64 ((rd_T27 l0_2 x9_1).f0), .slice A160_1 ((rd_T27 l0_2 x9_1).f1).length c160_1, .slice A160_2 ((rd_T27 l0_2 x9_1).f2).length c160_2]] rfl ?_; (with_reducible refine (ih k1 (by have := HK1.out; omega) ((rd_T27 l0_2 x9_1).f0) _ _ ((rd_T27 l0_2 x9_1).f1) _ _ ((rd_T27 l0_2 x9_1).f2) t162 _ ?side1 ?side2 ?side3 ?side4 A7.out).mono ?_); (case side1 => exact Kd.C_below HR160_1.out (bB HB)); (case side2 => exact HC160_1.out); (case side3 => exact Kd.C_below HR160_2.out (bB HB)); (case side4 => exact HC160_2.out); rintro e w12 ⟨rfl, hb⟩; refine ⟨_, rfl, ?_⟩; replace BK159 := Aside0.mk (blk_below (g := gb159) (o := .cells #[.int .i64 a0_0, .slice A0_1 l0_1.length c0_1, .slice (some ad160) l0_2.length c0_2] 27 (0, 0)) (bF BK159) hb); replace BK161 := Aside0.mk (blk_below (g := gb161) (o := .cells #[.int .i64 ((rd_T27 l0_2 x9_1).f0), .slice A160_1 ((rd_T27 l0_2 x9_1).f1).length c160_1, .slice A160_2 ((rd_T27 l0_2 x9_1).f2).length c160_2] 27 (0, 0)) (bP3 BK161) hb); replace HB := bs HB hb; (try clear hb); (try clear hb2); (try clear hk); (try clear hi)))
      go_roundg k1
      case measure => have := HK1.out; omega
      case rel => exact ⟨(ji8), (wrap64 (x9_1 + 1)), (by first | rfl | (simp; done) | (simp only [← hji8] <;> (first | rfl | simp)) | (simp [*]; done)), (by first | rfl | (simp; done) | (simp [*]; done)), H', ⟨by have := HK1.out; omega⟩, ⟨bU BK159⟩, ⟨bB HB⟩⟩
     ·rw [if_neg c6] at H
      exact absurd H (by simp)
    ·rw [if_neg c5] at H
     exact absurd H (by simp)
   ·rw [if_neg c4] at H
    have c4b0 : decide (x9_1 < (l0_2.length : Int)) = false := decide_eq_false c4
    clear c4
    obtain rfl := Option.some.inj H
    go_wp2
    go_ret
    exact ⟨by first | rfl | (simp [errW_none, errW_some] <;> rfl) | (simp [*, errW_none, errW_some] <;> rfl), bB HB⟩
mutual
def trustquorumref02_Size.l0 : Nat → Int → List (S27) → Int → Int → Option (Int)
 | 0, _, _, _, _ => none
 | k + 1, x3, x14, x15, x16 => if x16 < x15 then (if 0 ≤ x16 then (if x16 < (x14.length : Int) then ((trustquorumref02_Size.f k ((rd_T27 x14 x16).f0) ((rd_T27 x14 x16).f1) ((rd_T27 x14 x16).f2)).bind fun t166 => (trustquorumref02_Size.l0 k (wrap64 (x3 + t166)) x14 x15 (wrap64 (x16 + 1)))) else (none)) else (none)) else (some x3)
def trustquorumref02_Size.f : Nat → Int → List Int → List (S27) → Option (Int)
 | 0, _, _, _ => none
 | k + 1, a0_0, l0_1, l0_2 => trustquorumref02_Size.l0 k (wrap64 ((l0_1.length : Int) + (l0_2.length : Int))) l0_2 (l0_2.length : Int) 0
end
set_option maxHeartbeats 8000000 in
set_option maxRecDepth 100000 in
theorem trustquorumref02_Size.calls (k : Nat) : ∀ (a0_0 : Int) (A0_1 : Option Addr) (c0_1 : Nat) (l0_1 : List Int) (A0_2 : Option Addr) (c0_2 : Nat) (l0_2 : List (S27)) (r : Int) (w : World) (hr0_1 : Kd.C (Kd.int .i64) w A0_1 l0_1.length l0_1) (hc0_1 : l0_1.length ≤ c0_1) (hr0_2 : Kd.C k27 w A0_2 l0_2.length l0_2) (hc0_2 : l0_2.length ≤ c0_2) (h : trustquorumref02_Size.f k a0_0 l0_1 l0_2 = some r),
 Calls Try.prog 39 #[.agg #[.int .i64 a0_0, .slice A0_1 l0_1.length c0_1, .slice A0_2 l0_2.length c0_2]] w fun e w' => e = .returned (.int .i64 r) ∧ Below w.heap.size w w' := by
 induction k using Nat.strongRecOn with
 | _ k ih =>
 intro a0_0 A0_1 c0_1 l0_1 A0_2 c0_2 l0_2 r w hr0_1 hc0_1 hr0_2 hc0_2 h
 cases k with
 | zero => exact absurd h (by simp [trustquorumref02_Size.f])
 | succ k =>
 simp only [trustquorumref02_Size.f] at h
 have hu27 := Try.underlying27
 have HR0_1 := Aside0.mk hr0_1
 have HC0_1 := Aside0.mk hc0_1
 clear hr0_1 hc0_1
 have HR0_2 := Aside0.mk hr0_2
 have HC0_2 := Aside0.mk hc0_2
 clear hr0_2 hc0_2
 have HB := Aside0.mk (Below.refl w.heap.size w)
 have H : (trustquorumref02_Size.l0 k (wrap64 ((l0_1.length : Int) + (l0_2.length : Int))) l0_2 (l0_2.length : Int) 0) = some r := h
 clear h
 have H' := Aside0.mk H
 clear H
 go_enter Try.func39, Try.ntmps39
 go_wp2_with (first | ((with_reducible refine gate_dst (N := 1) rfl ?_); refine box_event ?hg (N := 1) ?hd (cs := #[.int .i64 a0_0, .slice A0_1 l0_1.length c0_1, .slice A0_2 l0_2.length c0_2]) (t := 27) ?hr ?_; (case hd => rfl); (case hg => rfl); (case hr => first | (go_simp; done) | (go_simp; rfl)); intro gb163 hg w2 hbox hb; have BK163 := Aside0.mk (hbox); have GW163 := Aside0.mk ((by rw [hg]; exact (below_size (bB HB)) : w.heap.size ≤ gb163)); have GE163 := Aside0.mk ((by rw [hg]; exact (below_size (bB HB)) : w.heap.size ≤ gb163)); replace HB := bs HB hb; clear hb hbox hg; have hcz3_0 := bC0 BK163; have hcz3_1 := bC1 BK163; have hcz3_2 := bC2 BK163; have hfz3_0 := blk_frozen BK163.out 0; have hfz3_1 := blk_frozen BK163.out 1; have hfz3_2 := blk_frozen BK163.out 2))
 go_loopg [3, 16] k (fun kq v3 v16 w' => ∃ (x3_1 : Int) (x16_1 : Int), v3 = .int .i64 x3_1 ∧ v16 = .int .i64 x16_1 ∧ Aside0 (trustquorumref02_Size.l0 kq x3_1 l0_2 (l0_2.length : Int) x16_1 = some r) ∧ Aside0 (kq ≤ k) ∧ Aside0 (w'.heap[gb163]? = some (.cells #[.int .i64 a0_0, (.slice A0_1 l0_1.length c0_1), (.slice A0_2 l0_2.length c0_2)] 27 (0, 0))) ∧ Aside0 (Below w.heap.size w w'))
 case atStart => exact ⟨(wrap64 ((l0_1.length : Int) + (l0_2.length : Int))), (0), (by first | rfl | (simp; done) | (simp [*]; done)), (by first | rfl | (simp; done) | (simp [*]; done)), H', ⟨Nat.le_refl _⟩, ⟨bU BK163⟩, ⟨bB HB⟩⟩
 case round =>
  clear H'
  try clear p2
  try clear c3
  try clear hcz3_0
  try clear hcz3_1
  try clear hcz3_2
  try clear hfz3_0
  try clear hfz3_1
  try clear hfz3_2
  obtain ⟨x3_1, x16_1, rfl, rfl, HA, HK1, BK163, HB⟩ := hrel
  cases gk with
  | zero => exact absurd HA.out (by simp [trustquorumref02_Size.l0])
  | succ k1 =>
   have H := HA.out
   clear HA
   simp only [trustquorumref02_Size.l0] at H
   by_cases c4 : x16_1 < (l0_2.length : Int)
   ·rw [if_pos c4] at H
    have c4b0 : decide (x16_1 < (l0_2.length : Int)) = true := decide_eq_true c4
    clear c4
    by_cases c5 : 0 ≤ x16_1
    ·rw [if_pos c5] at H
     have c5b0 : decide (0 ≤ x16_1) = true := decide_eq_true c5
     clear c5
     by_cases c6 : x16_1 < (l0_2.length : Int)
     ·rw [if_pos c6] at H
      have c6b0 : decide (x16_1 < (l0_2.length : Int)) = true := decide_eq_true c6
      clear c6
      replace H := Option.bind_eq_some_iff.mp H
      obtain ⟨t166, A70, H⟩ := H
      replace H : (trustquorumref02_Size.l0 k1 (wrap64 (x3_1 + t166)) l0_2 (l0_2.length : Int) (wrap64 (x16_1 + 1))) = some r := H
      have A7 := Aside0.mk A70
      clear A70
      have H' := Aside0.mk H
      clear H
      have p164 : 0 ≤ (x16_1 : Int) := of_decide_eq_true (by first | (with_reducible assumption) | assumption)
      have q164 : x16_1 < (l0_2.length : Int) := of_decide_eq_true (by first | (with_reducible assumption) | assumption)
      obtain ⟨ad164, A164_1, c164_1, A164_2, c164_2, e164, hx164_0, hx164_1, hx164_2, hl164_1, hi164_1, hl164_2, hi164_2⟩ := at_T27 HR0_2.out x16_1 p164 q164
      cases e164
      replace hx164_0 := (HB.out.cell (World.block_lt_of_cell? w _ hx164_0)).trans hx164_0
      replace hx164_1 := (HB.out.cell (World.block_lt_of_cell? w _ hx164_1)).trans hx164_1
      replace hx164_2 := (HB.out.cell (World.block_lt_of_cell? w _ hx164_2)).trans hx164_2
      have HR164_1 := Aside0.mk hi164_1
      have HC164_1 := Aside0.mk hl164_1
      clear hi164_1 hl164_1
      have HR164_2 := Aside0.mk hi164_2
      have HC164_2 := Aside0.mk hl164_2
      clear hi164_2 hl164_2
      replace p164 := eq_true p164
      replace q164 := eq_true q164
      go_wp2_with (first | ((with_reducible refine gate_dst (N := 5) rfl ?_); refine box_event ?hg (N := 5) ?hd (cs := #[.int .i64 0, .slice none 0 0, .slice none 0 0]) (t := 27) ?hr ?_; (case hd => rfl); (case hg => rfl); (case hr => first | (go_simp; done) | (go_simp; rfl)); intro gb165 hg w8 hbox hb; have BK165 := Aside0.mk (hbox); have GW165 := Aside0.mk ((by rw [hg]; exact (below_size (bB HB)) : w.heap.size ≤ gb165)); have GE165 := Aside0.mk ((by rw [hg]; exact (below_size (bB HB)) : w.heap.size ≤ gb165)); replace HB := bs HB hb; have NB163_165 := Aside0.mk ((by rw [hg]; exact Nat.ne_of_lt (blk_lt (bU BK163)) : gb163 ≠ gb165)); have NB165_163 := Aside0.mk ((by rw [hg]; exact Nat.ne_of_gt (blk_lt (bU BK163)) : gb165 ≠ gb163)); replace BK163 := bb BK163 hb; clear hb hbox hg; have hnb9 := NB165_163.out; have hnc9 := NB163_165.out; have hcz10_0 := bC0 BK165; have hcz10_1 := bC1 BK165; have hcz10_2 := bC2 BK165; have hfz10_0 := blk_frozen BK165.out 0; have hfz10_1 := blk_frozen BK165.out 1; have hfz10_2 := blk_frozen BK165.out 2) | ((with_reducible refine gate_callee (f := 39) rfl ?_); refine goesA_ (some 22) rfl rfl Try.func39 rfl #[.agg #[.int .i64 ((rd_T27 l0_2 x16_1).f0), .slice A164_1 ((rd_T27 l0_2 x16_1).f1).length c164_1, .slice A164_2 ((rd_T27 l0_2 x16_1).f2).length c164_2]] rfl ?_; (with_reducible refine (ih k1 (by have := HK1.out; omega) ((rd_T27 l0_2 x16_1).f0) _ _ ((rd_T27 l0_2 x16_1).f1) _ _ ((rd_T27 l0_2 x16_1).f2) t166 _ ?side1 ?side2 ?side3 ?side4 A7.out).mono ?_); (case side1 => exact Kd.C_below HR164_1.out (bB HB)); (case side2 => exact HC164_1.out); (case side3 => exact Kd.C_below HR164_2.out (bB HB)); (case side4 => exact HC164_2.out); rintro e w11 ⟨rfl, hb⟩; refine ⟨_, rfl, ?_⟩; replace BK163 := Aside0.mk (blk_below (g := gb163) (o := .cells #[.int .i64 a0_0, .slice A0_1 l0_1.length c0_1, .slice (some ad164) l0_2.length c0_2] 27 (0, 0)) (bF BK163) hb); replace BK165 := Aside0.mk (blk_below (g := gb165) (o := .cells #[.int .i64 ((rd_T27 l0_2 x16_1).f0), .slice A164_1 ((rd_T27 l0_2 x16_1).f1).length c164_1, .slice A164_2 ((rd_T27 l0_2 x16_1).f2).length c164_2] 27 (0, 0)) (bP3 BK165) hb); replace HB := bs HB hb; (try clear hb); (try clear hb2); (try clear hk); (try clear hi)))
      go_roundg k1
      case measure => have := HK1.out; omega
      case rel => exact ⟨(wrap64 (x3_1 + t166)), (wrap64 (x16_1 + 1)), (by first | rfl | (simp; done) | (simp [*]; done)), (by first | rfl | (simp; done) | (simp [*]; done)), H', ⟨by have := HK1.out; omega⟩, ⟨bU BK163⟩, ⟨bB HB⟩⟩
     ·rw [if_neg c6] at H
      exact absurd H (by simp)
    ·rw [if_neg c5] at H
     exact absurd H (by simp)
   ·rw [if_neg c4] at H
    have c4b0 : decide (x16_1 < (l0_2.length : Int)) = false := decide_eq_false c4
    clear c4
    obtain rfl := Option.some.inj H
    go_wp2
    go_ret
    exact ⟨by first | rfl | (simp [errW_none, errW_some] <;> rfl) | (simp [*, errW_none, errW_some] <;> rfl), bB HB⟩
def trustquorumref01_Valid.f (a0 : Int) : Option (Bool) := if a0 ≥ 0 then (some (decide (a0 ≤ 1023))) else (some false)
set_option maxHeartbeats 8000000 in
set_option maxRecDepth 100000 in
theorem trustquorumref01_Valid.calls (a0 : Int) (r : Bool) (w : World) (h : trustquorumref01_Valid.f a0 = some r) :
 Calls Try.prog 26 #[.int .i64 a0] w fun e w' => e = .returned (.bool r) ∧ Drawn0 w w' := by
 have H : (if a0 ≥ 0 then (some (decide (a0 ≤ 1023))) else (some false)) = some r := h
 clear h
 by_cases c2 : a0 ≥ 0
 ·rw [if_pos c2] at H
  have c2b0 : decide (0 ≤ a0) = true := decide_eq_true c2
  clear c2
  obtain rfl := Option.some.inj H
  go_enter Try.func26, Try.ntmps26
  go_wp2
  go_ret
  exact ⟨by first | rfl | (simp; done) | (simp [*]; done), by repeat (first | exact Drawn0.refl _ | apply Drawn0.step)⟩
 ·rw [if_neg c2] at H
  have c2b0 : decide (0 ≤ a0) = false := decide_eq_false c2
  clear c2
  obtain rfl := Option.some.inj H
  go_enter Try.func26, Try.ntmps26
  go_wp2
  go_ret
  exact ⟨by first | rfl | (simp; done) | (simp [*]; done), by repeat (first | exact Drawn0.refl _ | apply Drawn0.step)⟩
def trustquorumref01_Has.f (a0 : Int) (a1 : Int) : Option (Bool) := (trustquorumref01_Valid.f a0).bind fun t167 => (if t167 = true then (if a1 ≥ 0 then (if a1 < 10 then (if 0 ≤ a1 then (some ((Go.bits .and .i64 (shr .i64 a0 a1) 1) == 1)) else (none)) else (some false)) else (some false)) else (some false))
set_option maxHeartbeats 8000000 in
set_option maxRecDepth 100000 in
theorem trustquorumref01_Has.calls (a0 : Int) (a1 : Int) (r : Bool) (w : World) (h : trustquorumref01_Has.f a0 a1 = some r) :
 Calls Try.prog 27 #[.int .i64 a0, .int .i64 a1] w fun e w' => e = .returned (.bool r) ∧ Drawn0 w w' := by
 have H : ((trustquorumref01_Valid.f a0).bind fun t167 => (if t167 = true then (if a1 ≥ 0 then (if a1 < 10 then (if 0 ≤ a1 then (some ((Go.bits .and .i64 (shr .i64 a0 a1) 1) == 1)) else (none)) else (some false)) else (some false)) else (some false))) = some r := h
 clear h
 replace H := Option.bind_eq_some_iff.mp H
 obtain ⟨t167, A30, H⟩ := H
 replace H : (if t167 = true then (if a1 ≥ 0 then (if a1 < 10 then (if 0 ≤ a1 then (some ((Go.bits .and .i64 (shr .i64 a0 a1) 1) == 1)) else (none)) else (some false)) else (some false)) else (some false)) = some r := H
 have A3 := Aside0.mk A30
 clear A30
 by_cases c4 : t167 = true
 ·subst c4
  have H1 : (if a1 ≥ 0 then (if a1 < 10 then (if 0 ≤ a1 then (some ((Go.bits .and .i64 (shr .i64 a0 a1) 1) == 1)) else (none)) else (some false)) else (some false)) = some r := by rw [if_pos rfl] at H; exact H
  clear H
  have H := H1
  clear H1
  by_cases c5 : a1 ≥ 0
  ·rw [if_pos c5] at H
   have c5b0 : decide (0 ≤ a1) = true := decide_eq_true c5
   clear c5
   by_cases c6 : a1 < 10
   ·rw [if_pos c6] at H
    have c6b0 : decide (a1 < 10) = true := decide_eq_true c6
    clear c6
    by_cases c7 : 0 ≤ a1
    ·rw [if_pos c7] at H
     have c7b0 := eq_true c7
     have c7b1 : decide (0 ≤ a1) = true := decide_eq_true c7
     clear c7
     obtain ⟨ji8, hji8⟩ : ∃ j_ : Int, (shr .i64 a0 a1) = j_ := ⟨_, rfl⟩
     replace H : (some ((Go.bits .and .i64 (ji8) 1) == 1)) = some r := by first | (rw [hji8] at H; exact H) | (simp only [hji8] at H ⊢; exact H)
     (try rw [hji8] at A3)
     have hji8_ : (a0 / 2 ^ min a1.toNat 64) = ji8 := hji8
     have hji8z : a1 ≤ 64 → (a0 / 2 ^ a1.toNat) = ji8 := shr_small hji8
     obtain rfl := Option.some.inj H
     go_enter Try.func27, Try.ntmps27
     go_wp2_with (first | ((with_reducible refine gate_callee (f := 26) rfl ?_); refine goesA_ (some 6) rfl rfl Try.func26 rfl #[.int .i64 a0] rfl ?_; (with_reducible refine (trustquorumref01_Valid.calls a0 true _ A3.out).mono ?_); rintro e w' ⟨rfl, ⟨nd, rfl⟩⟩; refine ⟨_, rfl, ?_⟩))
     go_ret
     exact ⟨by first | rfl | (simp; done) | (simp only [← hji8] <;> (first | rfl | simp)) | (simp [*]; done), by repeat (first | exact Drawn0.refl _ | apply Drawn0.step)⟩
    ·rw [if_neg c7] at H
     exact absurd H (by simp)
   ·rw [if_neg c6] at H
    have c6b0 : decide (a1 < 10) = false := decide_eq_false c6
    clear c6
    obtain rfl := Option.some.inj H
    go_enter Try.func27, Try.ntmps27
    go_wp2_with (first | ((with_reducible refine gate_callee (f := 26) rfl ?_); refine goesA_ (some 6) rfl rfl Try.func26 rfl #[.int .i64 a0] rfl ?_; (with_reducible refine (trustquorumref01_Valid.calls a0 true _ A3.out).mono ?_); rintro e w' ⟨rfl, ⟨nd, rfl⟩⟩; refine ⟨_, rfl, ?_⟩))
    go_ret
    exact ⟨by first | rfl | (simp; done) | (simp [*]; done), by repeat (first | exact Drawn0.refl _ | apply Drawn0.step)⟩
  ·rw [if_neg c5] at H
   have c5b0 : decide (0 ≤ a1) = false := decide_eq_false c5
   clear c5
   obtain rfl := Option.some.inj H
   go_enter Try.func27, Try.ntmps27
   go_wp2_with (first | ((with_reducible refine gate_callee (f := 26) rfl ?_); refine goesA_ (some 6) rfl rfl Try.func26 rfl #[.int .i64 a0] rfl ?_; (with_reducible refine (trustquorumref01_Valid.calls a0 true _ A3.out).mono ?_); rintro e w' ⟨rfl, ⟨nd, rfl⟩⟩; refine ⟨_, rfl, ?_⟩))
   go_ret
   exact ⟨by first | rfl | (simp; done) | (simp [*]; done), by repeat (first | exact Drawn0.refl _ | apply Drawn0.step)⟩
 ·replace c4 := Bool.eq_false_iff.mpr c4
  subst c4
  have H1 : (some false) = some r := by rw [if_neg (show ¬ (false = true) by decide)] at H; exact H
  clear H
  have H := H1
  clear H1
  obtain rfl := Option.some.inj H
  go_enter Try.func27, Try.ntmps27
  go_wp2_with (first | ((with_reducible refine gate_callee (f := 26) rfl ?_); refine goesA_ (some 6) rfl rfl Try.func26 rfl #[.int .i64 a0] rfl ?_; (with_reducible refine (trustquorumref01_Valid.calls a0 false _ A3.out).mono ?_); rintro e w' ⟨rfl, ⟨nd, rfl⟩⟩; refine ⟨_, rfl, ?_⟩))
  go_ret
  exact ⟨by first | rfl | (simp; done) | (simp [*]; done), by repeat (first | exact Drawn0.refl _ | apply Drawn0.step)⟩
end Go.Proofs.Ytfkpimjiaijmgaa.G
end
section
namespace Go.Proofs.Ytfkpimjiaijmgaa.G
open Go.RowKit Go.Proofs.YtfkpimjiaijmgaaW.PrintWords Go.Proofs.YtfkpimjiaijmgaaW.PrintLast Go.Proofs.YtfkpimjiaijmgaaW.PrintMore
attribute [local go_sem] max2_int min2_int max_two min_two max_three min_three max_four min_four   -- for this text's walks alone
set_option linter.unusedVariables false
set_option linter.unusedSimpArgs false
mutual
def trustquorumref01_Of.l0 : Nat → Int → List Int → Int → Int → Option (Int × Int)
 | 0, _, _, _, _ => none
 | k + 1, x4, x7, x8, x9 => if x9 < x8 then (if 0 ≤ x9 then (if x9 < (x7.length : Int) then (if (rd x7 x9) < 0 then (trustquorumref01_Of.j1 k x4 (rd x7 x9) x7 x8 x9 true) else (trustquorumref01_Of.j1 k x4 (rd x7 x9) x7 x8 x9 (decide ((rd x7 x9) ≥ 10)))) else (none)) else (none)) else (some (x4, 0))
def trustquorumref01_Of.j1 : Nat → Int → Int → List Int → Int → Int → Bool → Option (Int × Int)
 | 0, _, _, _, _, _, _ => none
 | k + 1, x4, x6, x7, x8, x9, x18 => if x18 = true then (some (0, 5)) else ((trustquorumref01_Has.f x4 x6).bind fun t169 => (if t169 = true then (some (0, 6)) else (if 0 ≤ x6 then (trustquorumref01_Of.l0 k (Go.bits .or .i64 x4 (shl .i64 1 x6)) x7 x8 (wrap64 (x9 + 1))) else (none))))
end
def trustquorumref01_Of.f (k : Nat) (l0 : List Int) : Option (Int × Int) := trustquorumref01_Of.l0 k 0 l0 (l0.length : Int) 0
set_option maxHeartbeats 8000000 in
set_option maxRecDepth 100000 in
theorem trustquorumref01_Of.calls (k : Nat) (A0 : Option Addr) (c0 : Nat) (l0 : List Int) (r1 : Int) (r2 : Int) (w : World) (hr0 : Kd.C (Kd.int .i64) w A0 l0.length l0) (hc0 : l0.length ≤ c0) (h : trustquorumref01_Of.f k l0 = some (r1, r2)) :
 Calls Try.prog 53 #[.slice A0 l0.length c0] w fun e w' => e = .returned (.tuple #[.int .i64 r1, .int .i64 r2]) ∧ Drawn0 w w' := by
 have HR0 := Aside0.mk hr0
 have HC0 := Aside0.mk hc0
 clear hr0 hc0
 have H : (trustquorumref01_Of.l0 k 0 l0 (l0.length : Int) 0) = some (r1, r2) := h
 clear h
 have H' := Aside0.mk H
 clear H
 go_enter Try.func53, Try.ntmps53
 go_wp2
 go_loopg [4, 9] k (fun kq v4 v9 w' => ∃ (x4_1 : Int) (x9_1 : Int), v4 = .int .i64 x4_1 ∧ v9 = .int .i64 x9_1 ∧ Aside0 (trustquorumref01_Of.l0 kq x4_1 l0 (l0.length : Int) x9_1 = some (r1, r2)) ∧ Aside0 (kq ≤ k) ∧ Drawn0 w w')
 case atStart => exact ⟨(0), (0), (by first | rfl | (simp; done) | (simp [*]; done)), (by first | rfl | (simp; done) | (simp [*]; done)), H', ⟨Nat.le_refl _⟩, by repeat (first | exact Drawn0.refl _ | apply Drawn0.step)⟩
 case round =>
  clear H'
  obtain ⟨x4_1, x9_1, rfl, rfl, HA, HK1, ⟨m1, rfl⟩⟩ := hrel
  cases gk with
  | zero => exact absurd HA.out (by simp [trustquorumref01_Of.l0])
  | succ k1 =>
   have H := HA.out
   clear HA
   simp only [trustquorumref01_Of.l0] at H
   by_cases c2 : x9_1 < (l0.length : Int)
   ·rw [if_pos c2] at H
    have c2b0 : decide (x9_1 < (l0.length : Int)) = true := decide_eq_true c2
    clear c2
    by_cases c3 : 0 ≤ x9_1
    ·rw [if_pos c3] at H
     have c3b0 : decide (0 ≤ x9_1) = true := decide_eq_true c3
     clear c3
     by_cases c4 : x9_1 < (l0.length : Int)
     ·rw [if_pos c4] at H
      have c4b0 : decide (x9_1 < (l0.length : Int)) = true := decide_eq_true c4
      clear c4
      have HC5 := Aside0.mk H
      clear H
      have p168 : 0 ≤ (x9_1 : Int) := of_decide_eq_true (by first | (with_reducible assumption) | assumption)
      have q168 : x9_1 < (l0.length : Int) := of_decide_eq_true (by first | (with_reducible assumption) | assumption)
      obtain ⟨ad168, e168, hx168_0⟩ := Kd.at_int HR0.out x9_1 p168 q168
      cases e168
      replace p168 := eq_true p168
      replace q168 := eq_true q168
      go_upto_region 5 with (fail)
      go_cut [18] (fun v18 wc => ∃ (kq : Nat) (x18_4 : Bool), v18 = .bool x18_4 ∧ Aside0 (trustquorumref01_Of.j1 kq x4_1 (rd l0 x9_1) l0 (l0.length : Int) x9_1 x18_4 = some (r1, r2)) ∧ Aside0 (kq ≤ k1) ∧ Drawn0 w wc)
      case first =>
       have H := HC5.out
       clear HC5
       by_cases c6 : (rd l0 x9_1) < 0
       ·rw [if_pos c6] at H
        have c6b0 : decide ((rd l0 x9_1) < 0) = true := decide_eq_true c6
        clear c6
        (first | rw [c6b0] | (simp only [i64_w, i32_w]; rw [c6b0]) | skip)
        have H' := Aside0.mk H
        clear H
        go_wp2
        go_meet
        case rel => exact ⟨_, (true), (by first | rfl | (simp; done) | (simp [*]; done)), H', ⟨by have := HK1.out; first | omega | exact Nat.le_refl _⟩, by repeat (first | exact Drawn0.refl _ | apply Drawn0.step)⟩
       ·rw [if_neg c6] at H
        have c6b0 : decide ((rd l0 x9_1) < 0) = false := decide_eq_false c6
        clear c6
        (first | rw [c6b0] | (simp only [i64_w, i32_w]; rw [c6b0]) | skip)
        have H' := Aside0.mk H
        clear H
        go_wp2
        go_meet
        case rel => exact ⟨_, (decide ((rd l0 x9_1) ≥ 10)), (by first | rfl | (simp; done) | (simp [*]; done)), H', ⟨by have := HK1.out; first | omega | exact Nat.le_refl _⟩, by repeat (first | exact Drawn0.refl _ | apply Drawn0.step)⟩
      case rest =>
       clear HC5
       try clear p1
       try clear q1
       try clear hx1
       try clear c2
       try clear c2b0
       try clear p2
       try clear c3
       try clear c3b0
       try clear c4
       try clear c4b0
       try clear c5
       try clear c6
       try clear c6b0
       try clear hx168_0
       try clear p168
       try clear q168
       obtain ⟨kq, x18_4, rfl, HA, HJ4, ⟨mc4, rfl⟩⟩ := hcut
       cases kq with
       | zero => exact absurd HA.out (by simp [trustquorumref01_Of.j1])
       | succ kj4 =>
        have H := HA.out
        clear HA
        simp only [trustquorumref01_Of.j1] at H
        by_cases c7 : x18_4 = true
        ·subst c7
         have H1 : (some (0, 5)) = some (r1, r2) := by rw [if_pos rfl] at H; exact H
         clear H
         have H := H1
         clear H1
         simp only [Option.some.injEq, Prod.mk.injEq] at H
         obtain ⟨rfl, rfl⟩ := H
         go_wp2
         go_ret2
         exact ⟨by first | rfl | (simp; done) | (simp [*]; done), by repeat (first | exact Drawn0.refl _ | apply Drawn0.step)⟩
        ·replace c7 := Bool.eq_false_iff.mpr c7
         subst c7
         have H1 : ((trustquorumref01_Has.f x4_1 (rd l0 x9_1)).bind fun t169 => (if t169 = true then (some (0, 6)) else (if 0 ≤ (rd l0 x9_1) then (trustquorumref01_Of.l0 kj4 (Go.bits .or .i64 x4_1 (shl .i64 1 (rd l0 x9_1))) l0 (l0.length : Int) (wrap64 (x9_1 + 1))) else (none)))) = some (r1, r2) := by rw [if_neg (show ¬ (false = true) by decide)] at H; exact H
         clear H
         have H := H1
         clear H1
         replace H := Option.bind_eq_some_iff.mp H
         obtain ⟨t169, A80, H⟩ := H
         replace H : (if t169 = true then (some (0, 6)) else (if 0 ≤ (rd l0 x9_1) then (trustquorumref01_Of.l0 kj4 (Go.bits .or .i64 x4_1 (shl .i64 1 (rd l0 x9_1))) l0 (l0.length : Int) (wrap64 (x9_1 + 1))) else (none))) = some (r1, r2) := H
         have A8 := Aside0.mk A80
         clear A80
         by_cases c9 : t169 = true
         ·subst c9
          have H1 : (some (0, 6)) = some (r1, r2) := by rw [if_pos rfl] at H; exact H
          clear H
          have H := H1
          clear H1
          simp only [Option.some.injEq, Prod.mk.injEq] at H
          obtain ⟨rfl, rfl⟩ := H
          go_wp2_with (first | ((with_reducible refine gate_callee (f := 27) rfl ?_); refine goesA_ (some 21) rfl rfl Try.func27 rfl #[.int .i64 x4_1, .int .i64 (rd l0 x9_1)] rfl ?_; (with_reducible refine (trustquorumref01_Has.calls x4_1 (rd l0 x9_1) true _ A8.out).mono ?_); rintro e w' ⟨rfl, ⟨nd, rfl⟩⟩; refine ⟨_, rfl, ?_⟩))
          go_ret2
          exact ⟨by first | rfl | (simp; done) | (simp [*]; done), by repeat (first | exact Drawn0.refl _ | apply Drawn0.step)⟩
         ·replace c9 := Bool.eq_false_iff.mpr c9
          subst c9
          have H1 : (if 0 ≤ (rd l0 x9_1) then (trustquorumref01_Of.l0 kj4 (Go.bits .or .i64 x4_1 (shl .i64 1 (rd l0 x9_1))) l0 (l0.length : Int) (wrap64 (x9_1 + 1))) else (none)) = some (r1, r2) := by rw [if_neg (show ¬ (false = true) by decide)] at H; exact H
          clear H
          have H := H1
          clear H1
          by_cases c10 : 0 ≤ (rd l0 x9_1)
          ·rw [if_pos c10] at H
           have c10b0 := eq_true c10
           have c10b1 : decide (0 ≤ (rd l0 x9_1)) = true := decide_eq_true c10
           clear c10
           obtain ⟨ji11, hji11⟩ : ∃ j_ : Int, (shl .i64 1 (rd l0 x9_1)) = j_ := ⟨_, rfl⟩
           replace H : (trustquorumref01_Of.l0 kj4 (Go.bits .or .i64 x4_1 (ji11)) l0 (l0.length : Int) (wrap64 (x9_1 + 1))) = some (r1, r2) := by first | (rw [hji11] at H; exact H) | (simp only [hji11] at H ⊢; exact H)
           (try rw [hji11] at A8)
           have hji11_ : (IntKind.i64.wrap (1 * 2 ^ min (rd l0 x9_1).toNat 64)) = ji11 := hji11
           have hji11z : (rd l0 x9_1) ≤ 64 → (IntKind.i64.wrap (1 * 2 ^ (rd l0 x9_1).toNat)) = ji11 := shl_small hji11
           have hji11u : (IntKind.i64.wrap (2 ^ min (rd l0 x9_1).toNat 64)) = ji11 := by have h_ := hji11_; rw [Int.one_mul] at h_; exact h_
           have hji11v : (rd l0 x9_1) ≤ 64 → (IntKind.i64.wrap (2 ^ (rd l0 x9_1).toNat)) = ji11 := fun hle_ => by have h_ := hji11z hle_; rw [Int.one_mul] at h_; exact h_
           have hji11y : (wrap64 (1 * 2 ^ min (rd l0 x9_1).toNat 64)) = ji11 := (i64_w _).symm.trans hji11_
           have hji11x : (rd l0 x9_1) ≤ 64 → (wrap64 (1 * 2 ^ (rd l0 x9_1).toNat)) = ji11 := fun h_ => (i64_w _).symm.trans (hji11z h_)
           have H' := Aside0.mk H
           clear H
           go_wp2_with (first | ((with_reducible refine gate_callee (f := 27) rfl ?_); refine goesA_ (some 21) rfl rfl Try.func27 rfl #[.int .i64 x4_1, .int .i64 (rd l0 x9_1)] rfl ?_; (with_reducible refine (trustquorumref01_Has.calls x4_1 (rd l0 x9_1) false _ A8.out).mono ?_); rintro e w' ⟨rfl, ⟨nd, rfl⟩⟩; refine ⟨_, rfl, ?_⟩))
           go_roundg kj4
           case measure => have := HK1.out; have := HJ4.out; omega
           case rel => exact ⟨(Go.bits .or .i64 x4_1 (ji11)), (wrap64 (x9_1 + 1)), (by first | rfl | (simp; done) | (simp only [← hji11] <;> (first | rfl | simp)) | (simp [*]; done)), (by first | rfl | (simp; done) | (simp [*]; done)), H', ⟨by have := HK1.out; have := HJ4.out; omega⟩, by repeat (first | exact Drawn0.refl _ | apply Drawn0.step)⟩
          ·rw [if_neg c10] at H
           exact absurd H (by simp)
     ·rw [if_neg c4] at H
      exact absurd H (by simp)
    ·rw [if_neg c3] at H
     exact absurd H (by simp)
   ·rw [if_neg c2] at H
    have c2b0 : decide (x9_1 < (l0.length : Int)) = false := decide_eq_false c2
    clear c2
    simp only [Option.some.injEq, Prod.mk.injEq] at H
    obtain ⟨rfl, rfl⟩ := H
    go_wp2
    go_ret2
    exact ⟨by first | rfl | (simp; done) | (simp [*]; done), by repeat (first | exact Drawn0.refl _ | apply Drawn0.step)⟩
mutual
def trustquorumref02_check.j0 : Nat → Bool → Int → List Int → List (S27) → Option (Int)
 | 0, _, _, _, _ => none
 | k + 1, x24, x171000, x171001, x171002 => if x24 = true then (some 4) else (trustquorumref02_check.l0 k x171001 (x171001.length : Int) 0 x171000 x171001 x171002)
def trustquorumref02_check.l0 : Nat → List Int → Int → Int → Int → List Int → List (S27) → Option (Int)
 | 0, _, _, _, _, _, _ => none
 | k + 1, x26, x27, x28, x171000, x171001, x171002 => if x28 < x27 then (if 0 ≤ x28 then (if x28 < (x26.length : Int) then (if (rd x26 x28) < 0 then (some 5) else (if (rd x26 x28) ≥ 10 then (some 5) else (trustquorumref02_check.l0 k x26 x27 (wrap64 (x28 + 1)) x171000 x171001 x171002))) else (none)) else (none)) else ((trustquorumref01_Of.f k x171001).bind fun bt172 => (if bt172.2 = 0 then (trustquorumref02_check.l1 k x171002 (x171002.length : Int) 0) else (some bt172.2)))
def trustquorumref02_check.l1 : Nat → List (S27) → Int → Int → Option (Int)
 | 0, _, _, _ => none
 | k + 1, x49, x50, x51 => if x51 < x50 then (if 0 ≤ x51 then (if x51 < (x49.length : Int) then ((trustquorumref02_check.f k ((rd_T27 x49 x51).f0) ((rd_T27 x49 x51).f1) ((rd_T27 x49 x51).f2)).bind fun t176 => (if t176 = 0 then (trustquorumref02_check.l1 k x49 x50 (wrap64 (x51 + 1))) else (some t176))) else (none)) else (none)) else (some 0)
def trustquorumref02_check.f : Nat → Int → List Int → List (S27) → Option (Int)
 | 0, _, _, _ => none
 | k + 1, a0_0, l0_1, l0_2 => if a0_0 < 1 then (trustquorumref02_check.j0 k true a0_0 l0_1 l0_2) else (trustquorumref02_check.j0 k (decide (a0_0 > (wrap64 ((l0_1.length : Int) + (l0_2.length : Int))))) a0_0 l0_1 l0_2)
end
set_option maxHeartbeats 8000000 in
set_option maxRecDepth 100000 in
theorem trustquorumref02_check.calls (k : Nat) : ∀ (a0_0 : Int) (A0_1 : Option Addr) (c0_1 : Nat) (l0_1 : List Int) (A0_2 : Option Addr) (c0_2 : Nat) (l0_2 : List (S27)) (r : Int) (w : World) (hr0_1 : Kd.C (Kd.int .i64) w A0_1 l0_1.length l0_1) (hc0_1 : l0_1.length ≤ c0_1) (hr0_2 : Kd.C k27 w A0_2 l0_2.length l0_2) (hc0_2 : l0_2.length ≤ c0_2) (h : trustquorumref02_check.f k a0_0 l0_1 l0_2 = some r),
 Calls Try.prog 40 #[.agg #[.int .i64 a0_0, .slice A0_1 l0_1.length c0_1, .slice A0_2 l0_2.length c0_2]] w fun e w' => e = .returned (.int .i64 r) ∧ Below w.heap.size w w' := by
 induction k using Nat.strongRecOn with
 | _ k ih =>
 intro a0_0 A0_1 c0_1 l0_1 A0_2 c0_2 l0_2 r w hr0_1 hc0_1 hr0_2 hc0_2 h
 cases k with
 | zero => exact absurd h (by simp [trustquorumref02_check.f])
 | succ k =>
 simp only [trustquorumref02_check.f] at h
 have hu27 := Try.underlying27
 have HR0_1 := Aside0.mk hr0_1
 have HC0_1 := Aside0.mk hc0_1
 clear hr0_1 hc0_1
 have HR0_2 := Aside0.mk hr0_2
 have HC0_2 := Aside0.mk hc0_2
 clear hr0_2 hc0_2
 have HB := Aside0.mk (Below.refl w.heap.size w)
 have H : (if a0_0 < 1 then (trustquorumref02_check.j0 k true a0_0 l0_1 l0_2) else (trustquorumref02_check.j0 k (decide (a0_0 > (wrap64 ((l0_1.length : Int) + (l0_2.length : Int))))) a0_0 l0_1 l0_2)) = some r := h
 clear h
 have HC2 := Aside0.mk H
 clear H
 go_enter Try.func40, Try.ntmps40
 go_upto_region 1 with (first | ((with_reducible refine gate_dst (N := 1) rfl ?_); (try (refine gate_guard (by rfl) ?_; dsimp only)); refine box_event ?hg (N := 1) ?hd (cs := #[.int .i64 a0_0, .slice A0_1 l0_1.length c0_1, .slice A0_2 l0_2.length c0_2]) (t := 27) ?hr ?_; (case hd => rfl); (case hg => rfl); (case hr => first | (go_simp; done) | (go_simp; rfl)); intro gb170 hg w3 hbox hb; have BK170 := Aside0.mk (hbox); have GW170 := Aside0.mk ((by rw [hg]; exact (below_size (bB HB)) : w.heap.size ≤ gb170)); have GE170 := Aside0.mk ((by rw [hg]; exact (below_size (bB HB)) : w.heap.size ≤ gb170)); replace HB := bs HB hb; clear hb hbox hg))
 (try simp only [Act.put, List.setIfInBounds_toArray, List.set_cons_zero, List.set_cons_succ])
 go_cut [24] (fun v24 wc => ∃ (kq : Nat) (x24_1 : Bool), v24 = .bool x24_1 ∧ Aside0 (trustquorumref02_check.j0 kq x24_1 a0_0 l0_1 l0_2 = some r) ∧ Aside0 (kq ≤ k) ∧ Aside0 (wc.heap[gb170]? = some (.cells #[.int .i64 a0_0, (.slice A0_1 l0_1.length c0_1), (.slice A0_2 l0_2.length c0_2)] 27 (0, 0))) ∧ Aside0 (Below w.heap.size w wc))
 case first =>
  have H := HC2.out
  clear HC2
  by_cases c4 : a0_0 < 1
  ·rw [if_pos c4] at H
   have c4b0 : decide (a0_0 < 1) = true := decide_eq_true c4
   clear c4
   (first | rw [c4b0] | (simp only [i64_w, i32_w]; rw [c4b0]) | skip)
   have H' := Aside0.mk H
   clear H
   have hcz5_0 := bC0 BK170
   have hcz5_1 := bC1 BK170
   have hcz5_2 := bC2 BK170
   have hfz5_0 := blk_frozen BK170.out 0
   have hfz5_1 := blk_frozen BK170.out 1
   have hfz5_2 := blk_frozen BK170.out 2
   go_wp2
   go_meet
   case rel => exact ⟨_, (true), (by first | rfl | (simp; done) | (simp [*]; done)), H', ⟨by first | omega | exact Nat.le_refl _⟩, ⟨bU BK170⟩, ⟨bB HB⟩⟩
  ·rw [if_neg c4] at H
   have c4b0 : decide (a0_0 < 1) = false := decide_eq_false c4
   clear c4
   (first | rw [c4b0] | (simp only [i64_w, i32_w]; rw [c4b0]) | skip)
   have H' := Aside0.mk H
   clear H
   have hcz6_0 := bC0 BK170
   have hcz6_1 := bC1 BK170
   have hcz6_2 := bC2 BK170
   have hfz6_0 := blk_frozen BK170.out 0
   have hfz6_1 := blk_frozen BK170.out 1
   have hfz6_2 := blk_frozen BK170.out 2
   go_wp2
   go_meet
   case rel => exact ⟨_, (decide (a0_0 > (wrap64 ((l0_1.length : Int) + (l0_2.length : Int))))), (by first | rfl | (simp; done) | (simp [*]; done)), H', ⟨by first | omega | exact Nat.le_refl _⟩, ⟨bU BK170⟩, ⟨bB HB⟩⟩
 case rest =>
  clear HC2
  try clear p2
  try clear c4
  try clear c4b0
  try clear p6
  try clear hcz5_0
  try clear hcz5_1
  try clear hcz5_2
  try clear hcz6_0
  try clear hcz6_1
  try clear hcz6_2
  try clear hfz5_0
  try clear hfz5_1
  try clear hfz5_2
  try clear hfz6_0
  try clear hfz6_1
  try clear hfz6_2
  obtain ⟨kq, x24_1, rfl, HA, HJ1, BK170, HB⟩ := hcut
  cases kq with
  | zero => exact absurd HA.out (by simp [trustquorumref02_check.j0])
  | succ kj1 =>
   have H := HA.out
   clear HA
   simp only [trustquorumref02_check.j0] at H
   by_cases c7 : x24_1 = true
   ·subst c7
    have H1 : (some 4) = some r := by rw [if_pos rfl] at H; exact H
    clear H
    have H := H1
    clear H1
    obtain rfl := Option.some.inj H
    go_wp2
    go_ret
    exact ⟨by first | rfl | (simp [errW_none, errW_some] <;> rfl) | (simp [*, errW_none, errW_some] <;> rfl), bB HB⟩
   ·replace c7 := Bool.eq_false_iff.mpr c7
    subst c7
    have H1 : (trustquorumref02_check.l0 kj1 l0_1 (l0_1.length : Int) 0 a0_0 l0_1 l0_2) = some r := by rw [if_neg (show ¬ (false = true) by decide)] at H; exact H
    clear H
    have H := H1
    clear H1
    have H' := Aside0.mk H
    clear H
    have hcz8_0 := bC0 BK170
    have hcz8_1 := bC1 BK170
    have hcz8_2 := bC2 BK170
    have hfz8_0 := blk_frozen BK170.out 0
    have hfz8_1 := blk_frozen BK170.out 1
    have hfz8_2 := blk_frozen BK170.out 2
    go_wp2
    go_loopg [28] kj1 (fun kq v28 w' => ∃ (x28_2 : Int), v28 = .int .i64 x28_2 ∧ Aside0 (trustquorumref02_check.l0 kq l0_1 (l0_1.length : Int) x28_2 a0_0 l0_1 l0_2 = some r) ∧ Aside0 (kq ≤ kj1) ∧ Aside0 (w'.heap[gb170]? = some (.cells #[.int .i64 a0_0, (.slice A0_1 l0_1.length c0_1), (.slice A0_2 l0_2.length c0_2)] 27 (0, 0))) ∧ Aside0 (Below w.heap.size w w'))
    case atStart => exact ⟨(0), (by first | rfl | (simp; done) | (simp [*]; done)), H', ⟨Nat.le_refl _⟩, ⟨bU BK170⟩, ⟨bB HB⟩⟩
    case round =>
     clear H'
     try clear p2
     try clear c4
     try clear c4b0
     try clear p6
     try clear c7
     try clear hcz5_0
     try clear hcz5_1
     try clear hcz5_2
     try clear hcz6_0
     try clear hcz6_1
     try clear hcz6_2
     try clear hcz8_0
     try clear hcz8_1
     try clear hcz8_2
     try clear hfz5_0
     try clear hfz5_1
     try clear hfz5_2
     try clear hfz6_0
     try clear hfz6_1
     try clear hfz6_2
     try clear hfz8_0
     try clear hfz8_1
     try clear hfz8_2
     try clear p2
     try clear p6
     obtain ⟨x28_2, rfl, HA, HK2, BK170, HB⟩ := hrel
     cases gk with
     | zero => exact absurd HA.out (by simp [trustquorumref02_check.l0])
     | succ k2 =>
      have H := HA.out
      clear HA
      simp only [trustquorumref02_check.l0] at H
      by_cases c9 : x28_2 < (l0_1.length : Int)
      ·rw [if_pos c9] at H
       have c9b0 : decide (x28_2 < (l0_1.length : Int)) = true := decide_eq_true c9
       clear c9
       by_cases c10 : 0 ≤ x28_2
       ·rw [if_pos c10] at H
        have c10b0 : decide (0 ≤ x28_2) = true := decide_eq_true c10
        clear c10
        by_cases c11 : x28_2 < (l0_1.length : Int)
        ·rw [if_pos c11] at H
         have c11b0 : decide (x28_2 < (l0_1.length : Int)) = true := decide_eq_true c11
         clear c11
         by_cases c12 : (rd l0_1 x28_2) < 0
         ·rw [if_pos c12] at H
          have c12b0 : decide ((rd l0_1 x28_2) < 0) = true := decide_eq_true c12
          clear c12
          obtain rfl := Option.some.inj H
          have p171 : 0 ≤ (x28_2 : Int) := of_decide_eq_true (by first | (with_reducible assumption) | assumption)
          have q171 : x28_2 < (l0_1.length : Int) := of_decide_eq_true (by first | (with_reducible assumption) | assumption)
          obtain ⟨ad171, e171, hx171_0⟩ := Kd.at_int HR0_1.out x28_2 p171 q171
          cases e171
          replace hx171_0 := (HB.out.cell (World.block_lt_of_cell? w _ hx171_0)).trans hx171_0
          replace p171 := eq_true p171
          replace q171 := eq_true q171
          go_wp2
          go_ret
          exact ⟨by first | rfl | (simp [errW_none, errW_some] <;> rfl) | (simp [*, errW_none, errW_some] <;> rfl), bB HB⟩
         ·rw [if_neg c12] at H
          have c12b0 : decide ((rd l0_1 x28_2) < 0) = false := decide_eq_false c12
          clear c12
          by_cases c13 : (rd l0_1 x28_2) ≥ 10
          ·rw [if_pos c13] at H
           have c13b0 : decide (10 ≤ (rd l0_1 x28_2)) = true := decide_eq_true c13
           clear c13
           obtain rfl := Option.some.inj H
           have p171 : 0 ≤ (x28_2 : Int) := of_decide_eq_true (by first | (with_reducible assumption) | assumption)
           have q171 : x28_2 < (l0_1.length : Int) := of_decide_eq_true (by first | (with_reducible assumption) | assumption)
           obtain ⟨ad171, e171, hx171_0⟩ := Kd.at_int HR0_1.out x28_2 p171 q171
           cases e171
           replace hx171_0 := (HB.out.cell (World.block_lt_of_cell? w _ hx171_0)).trans hx171_0
           replace p171 := eq_true p171
           replace q171 := eq_true q171
           go_wp2
           go_ret
           exact ⟨by first | rfl | (simp [errW_none, errW_some] <;> rfl) | (simp [*, errW_none, errW_some] <;> rfl), bB HB⟩
          ·rw [if_neg c13] at H
           have c13b0 : decide (10 ≤ (rd l0_1 x28_2)) = false := decide_eq_false c13
           clear c13
           have H' := Aside0.mk H
           clear H
           have p171 : 0 ≤ (x28_2 : Int) := of_decide_eq_true (by first | (with_reducible assumption) | assumption)
           have q171 : x28_2 < (l0_1.length : Int) := of_decide_eq_true (by first | (with_reducible assumption) | assumption)
           obtain ⟨ad171, e171, hx171_0⟩ := Kd.at_int HR0_1.out x28_2 p171 q171
           cases e171
           replace hx171_0 := (HB.out.cell (World.block_lt_of_cell? w _ hx171_0)).trans hx171_0
           replace p171 := eq_true p171
           replace q171 := eq_true q171
           go_wp2
           go_roundg k2
           case measure => have := HJ1.out; have := HK2.out; omega
           case rel => exact ⟨(wrap64 (x28_2 + 1)), (by first | rfl | (simp; done) | (simp [*]; done)), H', ⟨by have := HJ1.out; have := HK2.out; omega⟩, ⟨bU BK170⟩, ⟨bB HB⟩⟩
        ·rw [if_neg c11] at H
         exact absurd H (by simp)
       ·rw [if_neg c10] at H
        exact absurd H (by simp)
      ·rw [if_neg c9] at H
       have c9b0 : decide (x28_2 < (l0_1.length : Int)) = false := decide_eq_false c9
       clear c9
       replace H := Option.bind_eq_some_iff.mp H
       obtain ⟨⟨t172, t173⟩, A140, H⟩ := H
       replace H : (if t173 = 0 then (trustquorumref02_check.l1 k2 l0_2 (l0_2.length : Int) 0) else (some t173)) = some r := H
       have A14 := Aside0.mk A140
       clear A140
       by_cases c15 : t173 = 0
       ·rw [if_pos c15] at H
        have c15b0 : (t173 == 0) = true := beq_iff_eq.mpr c15
        have c15b1 : (t173 != 0) = false := bne_eq_false_iff_eq.mpr c15
        clear c15
        have H' := Aside0.mk H
        clear H
        have hcz16_0 := bC0 BK170
        have hcz16_1 := bC1 BK170
        have hcz16_2 := bC2 BK170
        have hfz16_0 := blk_frozen BK170.out 0
        have hfz16_1 := blk_frozen BK170.out 1
        have hfz16_2 := blk_frozen BK170.out 2
        go_wp2_with (first | ((with_reducible refine gate_callee (f := 53) rfl ?_); refine goesA_ (some 42) rfl rfl Try.func53 rfl #[.slice A0_1 l0_1.length c0_1] rfl ?_; (with_reducible refine (trustquorumref01_Of.calls k2 _ _ l0_1 t172 t173 _ ?side1 ?side2 A14.out).mono ?_); (case side1 => exact Kd.uC (Kd.C_below HR0_1.out HB.out)); (case side2 => exact HC0_1.out); rintro e w' ⟨rfl, ⟨nd, rfl⟩⟩; refine ⟨_, rfl, ?_⟩))
        go_loopg [51] k2 (fun kq v51 w' => ∃ (x51_3 : Int), v51 = .int .i64 x51_3 ∧ Aside0 (trustquorumref02_check.l1 kq l0_2 (l0_2.length : Int) x51_3 = some r) ∧ Aside0 (kq ≤ k2) ∧ Aside0 (w'.heap[gb170]? = some (.cells #[.int .i64 a0_0, (.slice A0_1 l0_1.length c0_1), (.slice A0_2 l0_2.length c0_2)] 27 (0, 0))) ∧ Aside0 (Below w.heap.size w w'))
        case atStart => exact ⟨(0), (by first | rfl | (simp; done) | (simp [*]; done)), H', ⟨Nat.le_refl _⟩, ⟨bU BK170⟩, ⟨bB HB⟩⟩
        case round =>
         clear H'
         try clear c1
         try clear p1
         try clear q1
         try clear hx1
         try clear p2
         try clear c4
         try clear c4b0
         try clear c5
         try clear p6
         try clear c7
         try clear c9
         try clear c9b0
         try clear c10
         try clear c10b0
         try clear c11
         try clear c11b0
         try clear c12
         try clear c12b0
         try clear c13
         try clear c13b0
         try clear c15
         try clear c15b0
         try clear c15b1
         try clear hcz16_0
         try clear hcz16_1
         try clear hcz16_2
         try clear hcz5_0
         try clear hcz5_1
         try clear hcz5_2
         try clear hcz6_0
         try clear hcz6_1
         try clear hcz6_2
         try clear hcz8_0
         try clear hcz8_1
         try clear hcz8_2
         try clear hfz16_0
         try clear hfz16_1
         try clear hfz16_2
         try clear hfz5_0
         try clear hfz5_1
         try clear hfz5_2
         try clear hfz6_0
         try clear hfz6_1
         try clear hfz6_2
         try clear hfz8_0
         try clear hfz8_1
         try clear hfz8_2
         try clear hx171_0
         try clear p171
         try clear p2
         try clear p6
         try clear q171
         obtain ⟨x51_3, rfl, HA, HK3, BK170, HB⟩ := hrel
         cases gk with
         | zero => exact absurd HA.out (by simp [trustquorumref02_check.l1])
         | succ k3 =>
          have H := HA.out
          clear HA
          simp only [trustquorumref02_check.l1] at H
          by_cases c17 : x51_3 < (l0_2.length : Int)
          ·rw [if_pos c17] at H
           have c17b0 : decide (x51_3 < (l0_2.length : Int)) = true := decide_eq_true c17
           clear c17
           by_cases c18 : 0 ≤ x51_3
           ·rw [if_pos c18] at H
            have c18b0 : decide (0 ≤ x51_3) = true := decide_eq_true c18
            clear c18
            by_cases c19 : x51_3 < (l0_2.length : Int)
            ·rw [if_pos c19] at H
             have c19b0 : decide (x51_3 < (l0_2.length : Int)) = true := decide_eq_true c19
             clear c19
             replace H := Option.bind_eq_some_iff.mp H
             obtain ⟨t176, A200, H⟩ := H
             replace H : (if t176 = 0 then (trustquorumref02_check.l1 k3 l0_2 (l0_2.length : Int) (wrap64 (x51_3 + 1))) else (some t176)) = some r := H
             have A20 := Aside0.mk A200
             clear A200
             by_cases c21 : t176 = 0
             ·rw [if_pos c21] at H
              have c21b0 : (t176 == 0) = true := beq_iff_eq.mpr c21
              have c21b1 : (t176 != 0) = false := bne_eq_false_iff_eq.mpr c21
              clear c21
              have H' := Aside0.mk H
              clear H
              have p174 : 0 ≤ (x51_3 : Int) := of_decide_eq_true (by first | (with_reducible assumption) | assumption)
              have q174 : x51_3 < (l0_2.length : Int) := of_decide_eq_true (by first | (with_reducible assumption) | assumption)
              obtain ⟨ad174, A174_1, c174_1, A174_2, c174_2, e174, hx174_0, hx174_1, hx174_2, hl174_1, hi174_1, hl174_2, hi174_2⟩ := at_T27 HR0_2.out x51_3 p174 q174
              cases e174
              replace hx174_0 := (HB.out.cell (World.block_lt_of_cell? w _ hx174_0)).trans hx174_0
              replace hx174_1 := (HB.out.cell (World.block_lt_of_cell? w _ hx174_1)).trans hx174_1
              replace hx174_2 := (HB.out.cell (World.block_lt_of_cell? w _ hx174_2)).trans hx174_2
              have HR174_1 := Aside0.mk hi174_1
              have HC174_1 := Aside0.mk hl174_1
              clear hi174_1 hl174_1
              have HR174_2 := Aside0.mk hi174_2
              have HC174_2 := Aside0.mk hl174_2
              clear hi174_2 hl174_2
              replace p174 := eq_true p174
              replace q174 := eq_true q174
              go_wp2_with (first | ((with_reducible refine gate_dst (N := 8) rfl ?_); (try (refine gate_guard (by rfl) ?_; dsimp only)); refine box_event ?hg (N := 8) ?hd (cs := #[.int .i64 0, .slice none 0 0, .slice none 0 0]) (t := 27) ?hr ?_; (case hd => rfl); (case hg => rfl); (case hr => first | (go_simp; done) | (go_simp; rfl)); intro gb175 hg w22 hbox hb; have BK175 := Aside0.mk (hbox); have GW175 := Aside0.mk ((by rw [hg]; exact (below_size (bB HB)) : w.heap.size ≤ gb175)); have GE175 := Aside0.mk ((by rw [hg]; exact (below_size (bB HB)) : w.heap.size ≤ gb175)); replace HB := bs HB hb; have NB170_175 := Aside0.mk ((by rw [hg]; exact Nat.ne_of_lt (blk_lt (bU BK170)) : gb170 ≠ gb175)); have NB175_170 := Aside0.mk ((by rw [hg]; exact Nat.ne_of_gt (blk_lt (bU BK170)) : gb175 ≠ gb170)); replace BK170 := bb BK170 hb; clear hb hbox hg; have hnb23 := NB175_170.out; have hnc23 := NB170_175.out; have hcz24_0 := bC0 BK175; have hcz24_1 := bC1 BK175; have hcz24_2 := bC2 BK175; have hfz24_0 := blk_frozen BK175.out 0; have hfz24_1 := blk_frozen BK175.out 1; have hfz24_2 := blk_frozen BK175.out 2) | ((with_reducible refine gate_callee (f := 40) rfl ?_); refine goesA_ (some 56) rfl rfl Try.func40 rfl #[.agg #[.int .i64 ((rd_T27 l0_2 x51_3).f0), .slice A174_1 ((rd_T27 l0_2 x51_3).f1).length c174_1, .slice A174_2 ((rd_T27 l0_2 x51_3).f2).length c174_2]] rfl ?_; (with_reducible refine (ih k3 (by have := HJ1.out; have := HK2.out; have := HK3.out; omega) ((rd_T27 l0_2 x51_3).f0) _ _ ((rd_T27 l0_2 x51_3).f1) _ _ ((rd_T27 l0_2 x51_3).f2) t176 _ ?side1 ?side2 ?side3 ?side4 A20.out).mono ?_); (case side1 => exact Kd.C_below HR174_1.out (bB HB)); (case side2 => exact HC174_1.out); (case side3 => exact Kd.C_below HR174_2.out (bB HB)); (case side4 => exact HC174_2.out); rintro e w25 ⟨rfl, hb⟩; refine ⟨_, rfl, ?_⟩; replace BK170 := Aside0.mk (blk_below (g := gb170) (o := .cells #[.int .i64 a0_0, .slice A0_1 l0_1.length c0_1, .slice (some ad174) l0_2.length c0_2] 27 (0, 0)) (bF BK170) hb); replace BK175 := Aside0.mk (blk_below (g := gb175) (o := .cells #[.int .i64 ((rd_T27 l0_2 x51_3).f0), .slice A174_1 ((rd_T27 l0_2 x51_3).f1).length c174_1, .slice A174_2 ((rd_T27 l0_2 x51_3).f2).length c174_2] 27 (0, 0)) (bP3 BK175) hb); replace HB := bs HB hb; (try clear hb); (try clear hb2); (try clear hk); (try clear hi)))
              go_roundg k3
              case measure => have := HJ1.out; have := HK2.out; have := HK3.out; omega
              case rel => exact ⟨(wrap64 (x51_3 + 1)), (by first | rfl | (simp; done) | (simp [*]; done)), H', ⟨by have := HJ1.out; have := HK2.out; have := HK3.out; omega⟩, ⟨bU BK170⟩, ⟨bB HB⟩⟩
             ·rw [if_neg c21] at H
              have c21b0 : (t176 == 0) = false := beq_eq_false_iff_ne.mpr c21
              have c21b1 : (t176 != 0) = true := bne_iff_ne.mpr c21
              obtain rfl := Option.some.inj H
              have p174 : 0 ≤ (x51_3 : Int) := of_decide_eq_true (by first | (with_reducible assumption) | assumption)
              have q174 : x51_3 < (l0_2.length : Int) := of_decide_eq_true (by first | (with_reducible assumption) | assumption)
              obtain ⟨ad174, A174_1, c174_1, A174_2, c174_2, e174, hx174_0, hx174_1, hx174_2, hl174_1, hi174_1, hl174_2, hi174_2⟩ := at_T27 HR0_2.out x51_3 p174 q174
              cases e174
              replace hx174_0 := (HB.out.cell (World.block_lt_of_cell? w _ hx174_0)).trans hx174_0
              replace hx174_1 := (HB.out.cell (World.block_lt_of_cell? w _ hx174_1)).trans hx174_1
              replace hx174_2 := (HB.out.cell (World.block_lt_of_cell? w _ hx174_2)).trans hx174_2
              have HR174_1 := Aside0.mk hi174_1
              have HC174_1 := Aside0.mk hl174_1
              clear hi174_1 hl174_1
              have HR174_2 := Aside0.mk hi174_2
              have HC174_2 := Aside0.mk hl174_2
              clear hi174_2 hl174_2
              replace p174 := eq_true p174
              replace q174 := eq_true q174
              go_wp2_with (first | ((with_reducible refine gate_dst (N := 8) rfl ?_); (try (refine gate_guard (by rfl) ?_; dsimp only)); refine box_event ?hg (N := 8) ?hd (cs := #[.int .i64 0, .slice none 0 0, .slice none 0 0]) (t := 27) ?hr ?_; (case hd => rfl); (case hg => rfl); (case hr => first | (go_simp; done) | (go_simp; rfl)); intro gb175 hg w26 hbox hb; have BK175 := Aside0.mk (hbox); have GW175 := Aside0.mk ((by rw [hg]; exact (below_size (bB HB)) : w.heap.size ≤ gb175)); have GE175 := Aside0.mk ((by rw [hg]; exact (below_size (bB HB)) : w.heap.size ≤ gb175)); replace HB := bs HB hb; have NB170_175 := Aside0.mk ((by rw [hg]; exact Nat.ne_of_lt (blk_lt (bU BK170)) : gb170 ≠ gb175)); have NB175_170 := Aside0.mk ((by rw [hg]; exact Nat.ne_of_gt (blk_lt (bU BK170)) : gb175 ≠ gb170)); replace BK170 := bb BK170 hb; clear hb hbox hg; have hnb27 := NB175_170.out; have hnc27 := NB170_175.out; have hcz28_0 := bC0 BK175; have hcz28_1 := bC1 BK175; have hcz28_2 := bC2 BK175; have hfz28_0 := blk_frozen BK175.out 0; have hfz28_1 := blk_frozen BK175.out 1; have hfz28_2 := blk_frozen BK175.out 2) | ((with_reducible refine gate_callee (f := 40) rfl ?_); refine goesA_ (some 56) rfl rfl Try.func40 rfl #[.agg #[.int .i64 ((rd_T27 l0_2 x51_3).f0), .slice A174_1 ((rd_T27 l0_2 x51_3).f1).length c174_1, .slice A174_2 ((rd_T27 l0_2 x51_3).f2).length c174_2]] rfl ?_; (with_reducible refine (ih k3 (by have := HJ1.out; have := HK2.out; have := HK3.out; omega) ((rd_T27 l0_2 x51_3).f0) _ _ ((rd_T27 l0_2 x51_3).f1) _ _ ((rd_T27 l0_2 x51_3).f2) t176 _ ?side1 ?side2 ?side3 ?side4 A20.out).mono ?_); (case side1 => exact Kd.C_below HR174_1.out (bB HB)); (case side2 => exact HC174_1.out); (case side3 => exact Kd.C_below HR174_2.out (bB HB)); (case side4 => exact HC174_2.out); rintro e w29 ⟨rfl, hb⟩; refine ⟨_, rfl, ?_⟩; replace BK170 := Aside0.mk (blk_below (g := gb170) (o := .cells #[.int .i64 a0_0, .slice A0_1 l0_1.length c0_1, .slice (some ad174) l0_2.length c0_2] 27 (0, 0)) (bF BK170) hb); replace BK175 := Aside0.mk (blk_below (g := gb175) (o := .cells #[.int .i64 ((rd_T27 l0_2 x51_3).f0), .slice A174_1 ((rd_T27 l0_2 x51_3).f1).length c174_1, .slice A174_2 ((rd_T27 l0_2 x51_3).f2).length c174_2] 27 (0, 0)) (bP3 BK175) hb); replace HB := bs HB hb; (try clear hb); (try clear hb2); (try clear hk); (try clear hi)))
              go_ret
              exact ⟨by first | rfl | (simp [errW_none, errW_some] <;> rfl) | (simp [*, errW_none, errW_some] <;> rfl), bB HB⟩
            ·rw [if_neg c19] at H
             exact absurd H (by simp)
           ·rw [if_neg c18] at H
            exact absurd H (by simp)
          ·rw [if_neg c17] at H
           have c17b0 : decide (x51_3 < (l0_2.length : Int)) = false := decide_eq_false c17
           clear c17
           obtain rfl := Option.some.inj H
           go_wp2
           go_ret
           exact ⟨by first | rfl | (simp [errW_none, errW_some] <;> rfl) | (simp [*, errW_none, errW_some] <;> rfl), bB HB⟩
       ·rw [if_neg c15] at H
        have c15b0 : (t173 == 0) = false := beq_eq_false_iff_ne.mpr c15
        have c15b1 : (t173 != 0) = true := bne_iff_ne.mpr c15
        obtain rfl := Option.some.inj H
        have hcz30_0 := bC0 BK170
        have hcz30_1 := bC1 BK170
        have hcz30_2 := bC2 BK170
        have hfz30_0 := blk_frozen BK170.out 0
        have hfz30_1 := blk_frozen BK170.out 1
        have hfz30_2 := blk_frozen BK170.out 2
        go_wp2_with (first | ((with_reducible refine gate_callee (f := 53) rfl ?_); refine goesA_ (some 42) rfl rfl Try.func53 rfl #[.slice A0_1 l0_1.length c0_1] rfl ?_; (with_reducible refine (trustquorumref01_Of.calls k2 _ _ l0_1 t172 t173 _ ?side1 ?side2 A14.out).mono ?_); (case side1 => exact Kd.uC (Kd.C_below HR0_1.out HB.out)); (case side2 => exact HC0_1.out); rintro e w' ⟨rfl, ⟨nd, rfl⟩⟩; refine ⟨_, rfl, ?_⟩))
        go_ret
        exact ⟨by first | rfl | (simp [errW_none, errW_some] <;> rfl) | (simp [*, errW_none, errW_some] <;> rfl), bB HB⟩
def trustquorumref02_Valid.f (k : Nat) (a0_0 : Int) (l0_1 : List Int) (l0_2 : List (S27)) : Option (Int) := (trustquorumref02_Depth.f k a0_0 l0_1 l0_2).bind fun t178 => (if t178 > 4 then (some 3) else ((trustquorumref02_Size.f k a0_0 l0_1 l0_2).bind fun t179 => (if t179 > 200 then (some 3) else ((trustquorumref02_check.f k a0_0 l0_1 l0_2).bind fun t180 => (some t180)))))
set_option maxHeartbeats 8000000 in
set_option maxRecDepth 100000 in
theorem trustquorumref02_Valid.calls (k : Nat) (a0_0 : Int) (A0_1 : Option Addr) (c0_1 : Nat) (l0_1 : List Int) (A0_2 : Option Addr) (c0_2 : Nat) (l0_2 : List (S27)) (r : Int) (w : World) (hr0_1 : Kd.C (Kd.int .i64) w A0_1 l0_1.length l0_1) (hc0_1 : l0_1.length ≤ c0_1) (hr0_2 : Kd.C k27 w A0_2 l0_2.length l0_2) (hc0_2 : l0_2.length ≤ c0_2) (h : trustquorumref02_Valid.f k a0_0 l0_1 l0_2 = some r) :
 Calls Try.prog 21 #[.agg #[.int .i64 a0_0, .slice A0_1 l0_1.length c0_1, .slice A0_2 l0_2.length c0_2]] w fun e w' => e = .returned (.int .i64 r) ∧ Below w.heap.size w w' := by
 have hu27 := Try.underlying27
 have HR0_1 := Aside0.mk hr0_1
 have HC0_1 := Aside0.mk hc0_1
 clear hr0_1 hc0_1
 have HR0_2 := Aside0.mk hr0_2
 have HC0_2 := Aside0.mk hc0_2
 clear hr0_2 hc0_2
 have HB := Aside0.mk (Below.refl w.heap.size w)
 have H : ((trustquorumref02_Depth.f k a0_0 l0_1 l0_2).bind fun t178 => (if t178 > 4 then (some 3) else ((trustquorumref02_Size.f k a0_0 l0_1 l0_2).bind fun t179 => (if t179 > 200 then (some 3) else ((trustquorumref02_check.f k a0_0 l0_1 l0_2).bind fun t180 => (some t180)))))) = some r := h
 clear h
 replace H := Option.bind_eq_some_iff.mp H
 obtain ⟨t178, A20, H⟩ := H
 replace H : (if t178 > 4 then (some 3) else ((trustquorumref02_Size.f k a0_0 l0_1 l0_2).bind fun t179 => (if t179 > 200 then (some 3) else ((trustquorumref02_check.f k a0_0 l0_1 l0_2).bind fun t180 => (some t180))))) = some r := H
 have A2 := Aside0.mk A20
 clear A20
 by_cases c3 : t178 > 4
 ·rw [if_pos c3] at H
  have c3b0 : decide (4 < t178) = true := decide_eq_true c3
  clear c3
  obtain rfl := Option.some.inj H
  go_enter Try.func21, Try.ntmps21
  go_wp2_with (first | ((with_reducible refine gate_dst (N := 1) rfl ?_); refine box_event ?hg (N := 1) ?hd (cs := #[.int .i64 a0_0, .slice A0_1 l0_1.length c0_1, .slice A0_2 l0_2.length c0_2]) (t := 27) ?hr ?_; (case hd => rfl); (case hg => rfl); (case hr => first | (go_simp; done) | (go_simp; rfl)); intro gb177 hg w4 hbox hb; have BK177 := Aside0.mk (hbox); have GW177 := Aside0.mk ((by rw [hg]; exact (below_size (bB HB)) : w.heap.size ≤ gb177)); have GE177 := Aside0.mk ((by rw [hg]; exact (below_size (bB HB)) : w.heap.size ≤ gb177)); replace HB := bs HB hb; clear hb hbox hg; have hcz5_0 := bC0 BK177; have hcz5_1 := bC1 BK177; have hcz5_2 := bC2 BK177; have hfz5_0 := blk_frozen BK177.out 0; have hfz5_1 := blk_frozen BK177.out 1; have hfz5_2 := blk_frozen BK177.out 2) | ((with_reducible refine gate_callee (f := 38) rfl ?_); refine goesA_ (some 4) rfl rfl Try.func38 rfl #[.agg #[.int .i64 a0_0, .slice A0_1 l0_1.length c0_1, .slice A0_2 l0_2.length c0_2]] rfl ?_; (with_reducible refine (trustquorumref02_Depth.calls k a0_0 _ _ l0_1 _ _ l0_2 t178 _ ?side1 ?side2 ?side3 ?side4 A2.out).mono ?_); (case side1 => exact Kd.uC (Kd.C_below HR0_1.out HB.out)); (case side2 => exact HC0_1.out); (case side3 => exact Kd.uC (Kd.C_below HR0_2.out HB.out)); (case side4 => exact HC0_2.out); rintro e w6 ⟨rfl, hb⟩; refine ⟨_, rfl, ?_⟩; replace BK177 := bb BK177 hb; replace HB := bs HB hb; (try clear hb); (try clear hb2); (try clear hk); (try clear hi)))
  go_ret
  exact ⟨by first | rfl | (simp [errW_none, errW_some] <;> rfl) | (simp [*, errW_none, errW_some] <;> rfl), bB HB⟩
 ·rw [if_neg c3] at H
  have c3b0 : decide (4 < t178) = false := decide_eq_false c3
  clear c3
  replace H := Option.bind_eq_some_iff.mp H
  obtain ⟨t179, A70, H⟩ := H
  replace H : (if t179 > 200 then (some 3) else ((trustquorumref02_check.f k a0_0 l0_1 l0_2).bind fun t180 => (some t180))) = some r := H
  have A7 := Aside0.mk A70
  clear A70
  by_cases c8 : t179 > 200
  ·rw [if_pos c8] at H
   have c8b0 : decide (200 < t179) = true := decide_eq_true c8
   clear c8
   obtain rfl := Option.some.inj H
   go_enter Try.func21, Try.ntmps21
   go_wp2_with (first | ((with_reducible refine gate_dst (N := 1) rfl ?_); refine box_event ?hg (N := 1) ?hd (cs := #[.int .i64 a0_0, .slice A0_1 l0_1.length c0_1, .slice A0_2 l0_2.length c0_2]) (t := 27) ?hr ?_; (case hd => rfl); (case hg => rfl); (case hr => first | (go_simp; done) | (go_simp; rfl)); intro gb177 hg w9 hbox hb; have BK177 := Aside0.mk (hbox); have GW177 := Aside0.mk ((by rw [hg]; exact (below_size (bB HB)) : w.heap.size ≤ gb177)); have GE177 := Aside0.mk ((by rw [hg]; exact (below_size (bB HB)) : w.heap.size ≤ gb177)); replace HB := bs HB hb; clear hb hbox hg; have hcz10_0 := bC0 BK177; have hcz10_1 := bC1 BK177; have hcz10_2 := bC2 BK177; have hfz10_0 := blk_frozen BK177.out 0; have hfz10_1 := blk_frozen BK177.out 1; have hfz10_2 := blk_frozen BK177.out 2) | ((with_reducible refine gate_callee (f := 38) rfl ?_); refine goesA_ (some 4) rfl rfl Try.func38 rfl #[.agg #[.int .i64 a0_0, .slice A0_1 l0_1.length c0_1, .slice A0_2 l0_2.length c0_2]] rfl ?_; (with_reducible refine (trustquorumref02_Depth.calls k a0_0 _ _ l0_1 _ _ l0_2 t178 _ ?side1 ?side2 ?side3 ?side4 A2.out).mono ?_); (case side1 => exact Kd.uC (Kd.C_below HR0_1.out HB.out)); (case side2 => exact HC0_1.out); (case side3 => exact Kd.uC (Kd.C_below HR0_2.out HB.out)); (case side4 => exact HC0_2.out); rintro e w11 ⟨rfl, hb⟩; refine ⟨_, rfl, ?_⟩; replace BK177 := bb BK177 hb; replace HB := bs HB hb; (try clear hb); (try clear hb2); (try clear hk); (try clear hi); have hcz12_0 := bC0 BK177; have hcz12_1 := bC1 BK177; have hcz12_2 := bC2 BK177; have hfz12_0 := blk_frozen BK177.out 0; have hfz12_1 := blk_frozen BK177.out 1; have hfz12_2 := blk_frozen BK177.out 2) | (go_at_call 39; (with_reducible refine (trustquorumref02_Size.calls k a0_0 _ _ l0_1 _ _ l0_2 t179 _ ?side1 ?side2 ?side3 ?side4 A7.out).mono ?_); (case side1 => exact Kd.uC (Kd.C_below HR0_1.out HB.out)); (case side2 => exact HC0_1.out); (case side3 => exact Kd.uC (Kd.C_below HR0_2.out HB.out)); (case side4 => exact HC0_2.out); rintro e w13 ⟨rfl, hb⟩; replace BK177 := bb BK177 hb; replace HB := bs HB hb; (try clear hb); (try clear hb2); (try clear hk); (try clear hi)))
   go_ret
   exact ⟨by first | rfl | (simp [errW_none, errW_some] <;> rfl) | (simp [*, errW_none, errW_some] <;> rfl), bB HB⟩
  ·rw [if_neg c8] at H
   have c8b0 : decide (200 < t179) = false := decide_eq_false c8
   clear c8
   replace H := Option.bind_eq_some_iff.mp H
   obtain ⟨t180, A140, H⟩ := H
   replace H : (some t180) = some r := H
   have A14 := Aside0.mk A140
   clear A140
   obtain rfl := Option.some.inj H
   go_enter Try.func21, Try.ntmps21
   go_wp2_with (first | ((with_reducible refine gate_dst (N := 1) rfl ?_); refine box_event ?hg (N := 1) ?hd (cs := #[.int .i64 a0_0, .slice A0_1 l0_1.length c0_1, .slice A0_2 l0_2.length c0_2]) (t := 27) ?hr ?_; (case hd => rfl); (case hg => rfl); (case hr => first | (go_simp; done) | (go_simp; rfl)); intro gb177 hg w15 hbox hb; have BK177 := Aside0.mk (hbox); have GW177 := Aside0.mk ((by rw [hg]; exact (below_size (bB HB)) : w.heap.size ≤ gb177)); have GE177 := Aside0.mk ((by rw [hg]; exact (below_size (bB HB)) : w.heap.size ≤ gb177)); replace HB := bs HB hb; clear hb hbox hg; have hcz16_0 := bC0 BK177; have hcz16_1 := bC1 BK177; have hcz16_2 := bC2 BK177; have hfz16_0 := blk_frozen BK177.out 0; have hfz16_1 := blk_frozen BK177.out 1; have hfz16_2 := blk_frozen BK177.out 2) | ((with_reducible refine gate_callee (f := 38) rfl ?_); refine goesA_ (some 4) rfl rfl Try.func38 rfl #[.agg #[.int .i64 a0_0, .slice A0_1 l0_1.length c0_1, .slice A0_2 l0_2.length c0_2]] rfl ?_; (with_reducible refine (trustquorumref02_Depth.calls k a0_0 _ _ l0_1 _ _ l0_2 t178 _ ?side1 ?side2 ?side3 ?side4 A2.out).mono ?_); (case side1 => exact Kd.uC (Kd.C_below HR0_1.out HB.out)); (case side2 => exact HC0_1.out); (case side3 => exact Kd.uC (Kd.C_below HR0_2.out HB.out)); (case side4 => exact HC0_2.out); rintro e w17 ⟨rfl, hb⟩; refine ⟨_, rfl, ?_⟩; replace BK177 := bb BK177 hb; replace HB := bs HB hb; (try clear hb); (try clear hb2); (try clear hk); (try clear hi); have hcz18_0 := bC0 BK177; have hcz18_1 := bC1 BK177; have hcz18_2 := bC2 BK177; have hfz18_0 := blk_frozen BK177.out 0; have hfz18_1 := blk_frozen BK177.out 1; have hfz18_2 := blk_frozen BK177.out 2) | (go_at_call 39; (with_reducible refine (trustquorumref02_Size.calls k a0_0 _ _ l0_1 _ _ l0_2 t179 _ ?side1 ?side2 ?side3 ?side4 A7.out).mono ?_); (case side1 => exact Kd.uC (Kd.C_below HR0_1.out HB.out)); (case side2 => exact HC0_1.out); (case side3 => exact Kd.uC (Kd.C_below HR0_2.out HB.out)); (case side4 => exact HC0_2.out); rintro e w19 ⟨rfl, hb⟩; replace BK177 := bb BK177 hb; replace HB := bs HB hb; (try clear hb); (try clear hb2); (try clear hk); (try clear hi); have hcz20_0 := bC0 BK177; have hcz20_1 := bC1 BK177; have hcz20_2 := bC2 BK177; have hfz20_0 := blk_frozen BK177.out 0; have hfz20_1 := blk_frozen BK177.out 1; have hfz20_2 := blk_frozen BK177.out 2) | ((with_reducible refine gate_callee (f := 40) rfl ?_); refine goesA_ (some 12) rfl rfl Try.func40 rfl #[.agg #[.int .i64 a0_0, .slice A0_1 l0_1.length c0_1, .slice A0_2 l0_2.length c0_2]] rfl ?_; (with_reducible refine (trustquorumref02_check.calls k a0_0 _ _ l0_1 _ _ l0_2 t180 _ ?side1 ?side2 ?side3 ?side4 A14.out).mono ?_); (case side1 => exact Kd.uC (Kd.C_below HR0_1.out HB.out)); (case side2 => exact HC0_1.out); (case side3 => exact Kd.uC (Kd.C_below HR0_2.out HB.out)); (case side4 => exact HC0_2.out); rintro e w21 ⟨rfl, hb⟩; refine ⟨_, rfl, ?_⟩; replace BK177 := bb BK177 hb; replace HB := bs HB hb; (try clear hb); (try clear hb2); (try clear hk); (try clear hi)))
   go_ret
   exact ⟨by first | rfl | (simp [errW_none, errW_some] <;> rfl) | (simp [*, errW_none, errW_some] <;> rfl), bB HB⟩
def trustquorummake_Trust.f (k : Nat) (s0_0 : List Int) (s0_1 : Int) (a1 : Int) (a2 : Int) : Option (Int × List Int × (List (S27)) × Int) := (trustquorummake_trust.f k s0_0 s0_1 a1 a2).bind fun bt182 => ((trustquorumref02_Valid.f k bt182.1 bt182.2.1 bt182.2.2.1).bind fun t191 => (if t191 = 0 then (some (bt182.1, bt182.2.1, bt182.2.2.1, bt182.2.2.2)) else ((trustquorummake_Tape_N.f s0_0 bt182.2.2.2 a1).bind fun bt192 => (some (1, (([bt192.1] : List Int)), ([] : List (S27)), bt192.2)))))
set_option maxHeartbeats 8000000 in
set_option maxRecDepth 100000 in
theorem trustquorummake_Trust.calls (k : Nat) (g : Nat) (s0_0 : List Int) (s0_1 : Int) (a1 : Int) (a2 : Int) (r1 : Int) (r2 : List Int) (r3 : List (S27)) (r4 : Int) (w0 w : World) (hI : IsS44 w0 w g s0_0 s0_1) (hB : Below w0.heap.size w0 w) (h : trustquorummake_Trust.f k s0_0 s0_1 a1 a2 = some (r1, r2, r3, r4)) :
 Calls Try.prog 7 #[.pointer (some ⟨g, 0, none⟩), .int .i64 a1, .int .i64 a2] w fun e w' => ∃ v1_ v2_ : Value, e = .returned (.agg #[.int .i64 r1, v1_, v2_]) ∧ Kd.R (Kd.int .i64) 3 w' w.heap.size (fun _ => True) v1_ r2 ∧ Kd.R k27 27 w' w.heap.size (fun k_ => some k_ ≠ (v1_ : Value).ownBlock) v2_ r3 ∧ IsS44 w0 w' g s0_0 r4 ∧ Below w0.heap.size w0 w' ∧ KeepBut w w' g none := by
 have hu27 := Try.underlying27
 have HI0 := Aside0.mk hI
 have HK := Aside0.mk (KeepBut.refl w g none)
 have HL := Aside0.mk hB.size
 clear hI
 have HW0 := Aside0.mk hB.size
 have HB := Aside0.mk hB
 clear hB
 have H : ((trustquorummake_trust.f k s0_0 s0_1 a1 a2).bind fun bt182 => ((trustquorumref02_Valid.f k bt182.1 bt182.2.1 bt182.2.2.1).bind fun t191 => (if t191 = 0 then (some (bt182.1, bt182.2.1, bt182.2.2.1, bt182.2.2.2)) else ((trustquorummake_Tape_N.f s0_0 bt182.2.2.2 a1).bind fun bt192 => (some (1, (([bt192.1] : List Int)), ([] : List (S27)), bt192.2)))))) = some (r1, r2, r3, r4) := h
 clear h
 replace H := Option.bind_eq_some_iff.mp H
 obtain ⟨⟨t182, t183, t186, t189⟩, A40, H⟩ := H
 replace H : ((trustquorumref02_Valid.f k t182 t183 t186).bind fun t191 => (if t191 = 0 then (some (t182, t183, t186, t189)) else ((trustquorummake_Tape_N.f s0_0 t189 a1).bind fun bt192 => (some (1, (([bt192.1] : List Int)), ([] : List (S27)), bt192.2))))) = some (r1, r2, r3, r4) := H
 have A4 := Aside0.mk A40
 clear A40
 replace H := Option.bind_eq_some_iff.mp H
 obtain ⟨t191, A50, H⟩ := H
 replace H : (if t191 = 0 then (some (t182, t183, t186, t189)) else ((trustquorummake_Tape_N.f s0_0 t189 a1).bind fun bt192 => (some (1, (([bt192.1] : List Int)), ([] : List (S27)), bt192.2)))) = some (r1, r2, r3, r4) := H
 have A5 := Aside0.mk A50
 clear A50
 by_cases c6 : t191 = 0
 ·rw [if_pos c6] at H
  have c6b0 : (t191 == 0) = true := beq_iff_eq.mpr c6
  have c6b1 : (t191 != 0) = false := bne_eq_false_iff_eq.mpr c6
  clear c6
  simp only [Option.some.injEq, Prod.mk.injEq] at H
  obtain ⟨rfl, rfl, rfl, rfl⟩ := H
  go_enter Try.func7, Try.ntmps7
  go_wp2_with (first | ((with_reducible refine gate_dst (N := 6) rfl ?_); refine box_event ?hg (N := 6) ?hd (cs := #[.int .i64 0, .slice none 0 0, .slice none 0 0]) (t := 27) ?hr ?_; (case hd => rfl); (case hg => rfl); (case hr => first | (go_simp; done) | (go_simp; rfl)); intro gb181 hg w7 hbox hb; replace HB := bs HB hb; have BK181 := Aside0.mk (hbox); have GW181 := Aside0.mk ((by rw [hg]; exact (keep_size (w := w) (g := g) (row := none) (kU HK)) : w.heap.size ≤ gb181)); have GE181 := Aside0.mk ((Nat.le_trans HW0.out (by rw [hg]; exact (keep_size (w := w) (g := g) (row := none) (kU HK)) : w.heap.size ≤ gb181) : w0.heap.size ≤ gb181)); replace HK := Aside0.mk (KeepBut.trans (kU HK) (KeepBut.of_below hb g none) (.inl rfl)); have NB0_181 := Aside0.mk ((by rw [hg]; exact Nat.ne_of_lt (IsS44.lt (show IsS44 w0 _ g s0_0 s0_1 from iU HI0)) : g ≠ gb181)); have NB181_0 := Aside0.mk ((by rw [hg]; exact Nat.ne_of_gt (IsS44.lt (show IsS44 w0 _ g s0_0 s0_1 from iU HI0)) : gb181 ≠ g)); replace HI0 := Aside0.mk (IsS44.below (iU HI0) hb); clear hb hbox hg) | ((with_reducible refine gate_callee (f := 20) rfl ?_); refine goesA_ (some 11) rfl rfl Try.func20 rfl #[.pointer (some ⟨g, 0, none⟩), .int .i64 a1, .int .i64 a2] rfl ?_; (with_reducible refine (trustquorummake_trust.calls k g s0_0 s0_1 a1 a2 t182 t183 t186 t189 w0 _ ?side1 ?side2 A4.out).mono ?_); (case side1 => exact iU HI0); (case side2 => exact bB HB); rintro e w8 ⟨v184, v187, rfl, ho0, ho1, hi, hb, hk⟩; refine ⟨_, rfl, ?_⟩; have HO185 := Aside0.mk (Kd.R_lower ho0 (keep_size (w := w) (g := g) (row := none) (by repeat (first | (with_reducible first | exact HK.out | apply KeepBut.set_ | apply keep_drewN | apply keep_drew | apply keep_alloc | refine keep_far ?_ GW181.out _) | exact HK.out)))); have HO188 := Aside0.mk (Kd.R_lower (Kd.R_newB ho1 (bU BK181)) (keep_size (w := w) (g := g) (row := none) (by repeat (first | (with_reducible first | exact HK.out | apply KeepBut.set_ | apply keep_drewN | apply keep_drew | apply keep_alloc | refine keep_far ?_ GW181.out _) | exact HK.out)))); replace BK181 := Aside0.mk (KeepBut.blk hk (bU BK181) NB181_0.out (by simp)); replace HK := Aside0.mk (KeepBut.trans (by repeat (first | (with_reducible first | exact HK.out | apply KeepBut.set_ | apply keep_drewN | apply keep_drew | apply keep_alloc | refine keep_far ?_ GW181.out _) | exact HK.out)) hk (.inl rfl)); replace HB := Aside0.mk (hb); replace HI0 := Aside0.mk (hi); (try clear hb); (try clear hb2); (try clear hk); (try clear hi); (try clear ho0); (try clear ho1)) | ((with_reducible refine gate_dst (N := 7) rfl ?_); refine box_event ?hg (N := 7) ?hd (cs := #[.int .i64 0, .slice none 0 0, .slice none 0 0]) (t := 27) ?hr ?_; (case hd => rfl); (case hg => rfl); (case hr => first | (go_simp; done) | (go_simp; rfl)); intro gb190 hg w9 hbox hb; replace HO185 := Kd.bR HO185 hb; replace HO188 := Aside0.mk (Kd.R_below (Kd.R_elderB (Kd.uR HO188) gb190 (Nat.le_of_eq hg.symm)) hb); replace HB := bs HB hb; have BK190 := Aside0.mk (hbox); have GW190 := Aside0.mk ((by rw [hg]; exact (keep_size (w := w) (g := g) (row := none) (by repeat (first | (with_reducible first | exact HK.out | apply KeepBut.set_ | apply keep_drewN | apply keep_drew | apply keep_alloc | refine keep_far ?_ GW181.out _) | exact HK.out))) : w.heap.size ≤ gb190)); have GE190 := Aside0.mk ((Nat.le_trans HW0.out (by rw [hg]; exact (keep_size (w := w) (g := g) (row := none) (by repeat (first | (with_reducible first | exact HK.out | apply KeepBut.set_ | apply keep_drewN | apply keep_drew | apply keep_alloc | refine keep_far ?_ GW181.out _) | exact HK.out))) : w.heap.size ≤ gb190) : w0.heap.size ≤ gb190)); replace HK := Aside0.mk (KeepBut.trans (by repeat (first | (with_reducible first | exact HK.out | apply KeepBut.set_ | apply keep_drewN | apply keep_drew | apply keep_alloc | refine keep_far ?_ GW181.out _) | exact HK.out)) (KeepBut.of_below hb g none) (.inl rfl)); have NB181_190 := Aside0.mk ((by rw [hg]; exact Nat.ne_of_lt (blk_lt (bU BK181)) : gb181 ≠ gb190)); have NB190_181 := Aside0.mk ((by rw [hg]; exact Nat.ne_of_gt (blk_lt (bU BK181)) : gb190 ≠ gb181)); replace BK181 := bb BK181 hb; have NB0_190 := Aside0.mk ((by rw [hg]; exact Nat.ne_of_lt (IsS44.lt (show IsS44 w0 _ g s0_0 t189 from iU HI0)) : g ≠ gb190)); have NB190_0 := Aside0.mk ((by rw [hg]; exact Nat.ne_of_gt (IsS44.lt (show IsS44 w0 _ g s0_0 t189 from iU HI0)) : gb190 ≠ g)); replace HI0 := Aside0.mk (IsS44.below (iU HI0) hb); clear hb hbox hg; have hnb10 := NB190_181.out; have hnc10 := NB181_190.out; have hnb11 := NB190_0.out; have hnc11 := NB0_190.out; have hcz12_0 := bC0 BK190; have hcz12_1 := bC1 BK190; have hcz12_2 := bC2 BK190; have hfz12_0 := blk_frozen BK190.out 0; have hfz12_1 := blk_frozen BK190.out 1; have hfz12_2 := blk_frozen BK190.out 2; obtain ⟨Ao13, co13, eo13⟩ := Kd.R_slice HO185.out; subst eo13; obtain ⟨Ao14, co14, eo14⟩ := Kd.R_slice HO188.out; subst eo14) | ((with_reducible refine gate_callee (f := 21) rfl ?_); refine goesA_ (some 13) rfl rfl Try.func21 rfl #[.agg #[.int .i64 t182, .slice Ao13 t183.length co13, .slice Ao14 t186.length co14]] rfl ?_; (with_reducible refine (trustquorumref02_Valid.calls k t182 _ _ t183 _ _ t186 t191 _ ?side1 ?side2 ?side3 ?side4 A5.out).mono ?_); (case side1 => refine (Kd.R_reads' (e := 3) (base := w.heap.size) (ok := fun k_ => True) (n := t183.length) (c := co13) ?_).2.2; exact (by (with_reducible repeat (first | apply Kd.R_alloc | apply Kd.R_drewN | apply Kd.R_drew)); exact (Kd.R_ft3 (Kd.R_types HO185.out BK190.out (by decide))))); (case side2 => exact (Kd.R_reads' HO185.out).2.1); (case side3 => refine (Kd.R_reads' (e := 27) (base := w.heap.size) (ok := fun k_ => ((some k_ ≠ (.slice Ao13 t183.length co13 : Value).ownBlock ∧ k_ ≠ gb181) ∧ k_ ≠ gb190)) (n := t186.length) (c := co14) ?_).2.2; exact (by (with_reducible repeat (first | apply Kd.R_alloc | apply Kd.R_drewN | apply Kd.R_drew)); exact (Kd.R_fw3 HO188.out (fun _ hk => hk.2)))); (case side4 => exact (Kd.R_reads' HO188.out).2.1); rintro e w15 ⟨rfl, hb⟩; refine ⟨_, rfl, ?_⟩; replace HO185 := Aside0.mk (Kd.R_below (by (with_reducible repeat (first | apply Kd.R_alloc | apply Kd.R_drewN | apply Kd.R_drew)); exact (Kd.R_ft3 (Kd.R_types HO185.out BK190.out (by decide)))) hb); replace HO188 := Aside0.mk (Kd.R_below (by (with_reducible repeat (first | apply Kd.R_alloc | apply Kd.R_drewN | apply Kd.R_drew)); exact (Kd.R_fw3 HO188.out (fun _ hk => hk.2))) hb); replace HI0 := Aside0.mk (IsS44.below (show IsS44 w0 (((w9.setCell ⟨gb190, 0, none⟩ (.int .i64 t182)).setCell ⟨gb190, 1, none⟩ (.slice Ao13 t183.length co13)).setCell ⟨gb190, 2, none⟩ (.slice Ao14 t186.length co14)) g s0_0 t189 from iU HI0) hb); replace BK181 := Aside0.mk (blk_below (g := gb181) (o := .cells #[.int .i64 0, .slice none 0 0, .slice none 0 0] 27 (0, 0)) (bF BK181) hb); replace BK190 := Aside0.mk (blk_below (g := gb190) (o := .cells #[.int .i64 t182, .slice Ao13 t183.length co13, .slice Ao14 t186.length co14] 27 (0, 0)) (bP3 BK190) hb); replace HK := Aside0.mk (KeepBut.trans (by repeat (first | (with_reducible first | exact HK.out | apply KeepBut.set_ | apply keep_drewN | apply keep_drew | apply keep_alloc | refine keep_far ?_ GW181.out _ | refine keep_far ?_ GW190.out _) | exact HK.out)) (KeepBut.of_below hb g none) (.inl rfl)); replace HB := bs HB hb; (try clear hb); (try clear hb2); (try clear hk); (try clear hi); have hcz16_0 := bC0 BK190; have hcz16_1 := bC1 BK190; have hcz16_2 := bC2 BK190; have hfz16_0 := blk_frozen BK190.out 0; have hfz16_1 := blk_frozen BK190.out 1; have hfz16_2 := blk_frozen BK190.out 2; have hnb17 := NB181_0.out; have hnc17 := NB0_181.out; have hcz18_0 := bC0 BK181; have hcz18_1 := bC1 BK181; have hcz18_2 := bC2 BK181; have hfz18_0 := blk_frozen BK181.out 0; have hfz18_1 := blk_frozen BK181.out 1; have hfz18_2 := blk_frozen BK181.out 2))
  refine bodyPost_ret (results_cell_row rfl _ _ gb181 27 #[.int .i64 t182, .slice Ao13 t183.length co13, .slice Ao14 t186.length co14] (0, 0) _ rfl (bP3 BK181) Try.underlying27 rfl (by kernel_rfl)) rfl ?_
  exact ⟨_, _, by first | rfl | (simp [errW_none, errW_some] <;> rfl) | (simp [*, errW_none, errW_some] <;> rfl), by (with_reducible repeat (first | apply Kd.R_alloc | apply Kd.R_drewN | apply Kd.R_drew)); exact Kd.R_mono (Kd.R_ft3 (Kd.R_types HO185.out BK181.out (by decide))) (fun _ hk => trivial), by (with_reducible repeat (first | apply Kd.R_alloc | apply Kd.R_drewN | apply Kd.R_drew)); exact Kd.R_mono (Kd.R_fw3 HO188.out (fun _ hk => hk.1.2)) (fun _ hk => hk.1.1), iU HI0, bB HB, by repeat (first | (with_reducible first | exact HK.out | apply KeepBut.set_ | apply keep_drewN | apply keep_drew | apply keep_alloc | refine keep_far ?_ GW181.out _ | refine keep_far ?_ GW190.out _) | exact HK.out)⟩
 ·rw [if_neg c6] at H
  have c6b0 : (t191 == 0) = false := beq_eq_false_iff_ne.mpr c6
  have c6b1 : (t191 != 0) = true := bne_iff_ne.mpr c6
  replace H := Option.bind_eq_some_iff.mp H
  obtain ⟨⟨t192, t193⟩, A190, H⟩ := H
  replace H : (some (1, (([t192] : List Int)), ([] : List (S27)), t193)) = some (r1, r2, r3, r4) := H
  have A19 := Aside0.mk A190
  clear A190
  obtain ⟨y194, hy194⟩ : ∃ y_ : List Int, y_ = (([t192] : List Int)) := ⟨_, rfl⟩
  replace H : (some (1, y194, ([] : List (S27)), t193)) = some (r1, r2, r3, r4) := by first | (rw [hy194]; with_reducible exact H) | (have H2_ := (Option.bind_some _ _).symm.trans H; rw [hy194]; with_reducible exact H2_) | (have H2_ := (Option.bind_some _ _).symm.trans H; with_reducible exact H2_) | with_reducible exact H | (rw [hy194]; exact H) | exact H
  have Ny194 := Aside0.mk hy194
  clear hy194
  simp only [Option.some.injEq, Prod.mk.injEq] at H
  obtain ⟨rfl, rfl, rfl, rfl⟩ := H
  go_enter Try.func7, Try.ntmps7
  go_wp2_with (first | ((with_reducible refine gate_dst (N := 6) rfl ?_); refine box_event ?hg (N := 6) ?hd (cs := #[.int .i64 0, .slice none 0 0, .slice none 0 0]) (t := 27) ?hr ?_; (case hd => rfl); (case hg => rfl); (case hr => first | (go_simp; done) | (go_simp; rfl)); intro gb181 hg w20 hbox hb; replace HB := bs HB hb; have BK181 := Aside0.mk (hbox); have GW181 := Aside0.mk ((by rw [hg]; exact (keep_size (w := w) (g := g) (row := none) (kU HK)) : w.heap.size ≤ gb181)); have GE181 := Aside0.mk ((Nat.le_trans HW0.out (by rw [hg]; exact (keep_size (w := w) (g := g) (row := none) (kU HK)) : w.heap.size ≤ gb181) : w0.heap.size ≤ gb181)); replace HK := Aside0.mk (KeepBut.trans (kU HK) (KeepBut.of_below hb g none) (.inl rfl)); have NB0_181 := Aside0.mk ((by rw [hg]; exact Nat.ne_of_lt (IsS44.lt (show IsS44 w0 _ g s0_0 s0_1 from iU HI0)) : g ≠ gb181)); have NB181_0 := Aside0.mk ((by rw [hg]; exact Nat.ne_of_gt (IsS44.lt (show IsS44 w0 _ g s0_0 s0_1 from iU HI0)) : gb181 ≠ g)); replace HI0 := Aside0.mk (IsS44.below (iU HI0) hb); clear hb hbox hg) | ((with_reducible refine gate_callee (f := 20) rfl ?_); refine goesA_ (some 11) rfl rfl Try.func20 rfl #[.pointer (some ⟨g, 0, none⟩), .int .i64 a1, .int .i64 a2] rfl ?_; (with_reducible refine (trustquorummake_trust.calls k g s0_0 s0_1 a1 a2 t182 t183 t186 t189 w0 _ ?side1 ?side2 A4.out).mono ?_); (case side1 => exact iU HI0); (case side2 => exact bB HB); rintro e w21 ⟨v184, v187, rfl, ho0, ho1, hi, hb, hk⟩; refine ⟨_, rfl, ?_⟩; have HO185 := Aside0.mk (Kd.R_lower ho0 (keep_size (w := w) (g := g) (row := none) (by repeat (first | (with_reducible first | exact HK.out | apply KeepBut.set_ | apply keep_drewN | apply keep_drew | apply keep_alloc | refine keep_far ?_ GW181.out _) | exact HK.out)))); have HO188 := Aside0.mk (Kd.R_lower (Kd.R_newB ho1 (bU BK181)) (keep_size (w := w) (g := g) (row := none) (by repeat (first | (with_reducible first | exact HK.out | apply KeepBut.set_ | apply keep_drewN | apply keep_drew | apply keep_alloc | refine keep_far ?_ GW181.out _) | exact HK.out)))); replace BK181 := Aside0.mk (KeepBut.blk hk (bU BK181) NB181_0.out (by simp)); replace HK := Aside0.mk (KeepBut.trans (by repeat (first | (with_reducible first | exact HK.out | apply KeepBut.set_ | apply keep_drewN | apply keep_drew | apply keep_alloc | refine keep_far ?_ GW181.out _) | exact HK.out)) hk (.inl rfl)); replace HB := Aside0.mk (hb); replace HI0 := Aside0.mk (hi); (try clear hb); (try clear hb2); (try clear hk); (try clear hi); (try clear ho0); (try clear ho1)) | ((with_reducible refine gate_dst (N := 7) rfl ?_); refine box_event ?hg (N := 7) ?hd (cs := #[.int .i64 0, .slice none 0 0, .slice none 0 0]) (t := 27) ?hr ?_; (case hd => rfl); (case hg => rfl); (case hr => first | (go_simp; done) | (go_simp; rfl)); intro gb190 hg w22 hbox hb; replace HO185 := Kd.bR HO185 hb; replace HO188 := Aside0.mk (Kd.R_below (Kd.R_elderB (Kd.uR HO188) gb190 (Nat.le_of_eq hg.symm)) hb); replace HB := bs HB hb; have BK190 := Aside0.mk (hbox); have GW190 := Aside0.mk ((by rw [hg]; exact (keep_size (w := w) (g := g) (row := none) (by repeat (first | (with_reducible first | exact HK.out | apply KeepBut.set_ | apply keep_drewN | apply keep_drew | apply keep_alloc | refine keep_far ?_ GW181.out _) | exact HK.out))) : w.heap.size ≤ gb190)); have GE190 := Aside0.mk ((Nat.le_trans HW0.out (by rw [hg]; exact (keep_size (w := w) (g := g) (row := none) (by repeat (first | (with_reducible first | exact HK.out | apply KeepBut.set_ | apply keep_drewN | apply keep_drew | apply keep_alloc | refine keep_far ?_ GW181.out _) | exact HK.out))) : w.heap.size ≤ gb190) : w0.heap.size ≤ gb190)); replace HK := Aside0.mk (KeepBut.trans (by repeat (first | (with_reducible first | exact HK.out | apply KeepBut.set_ | apply keep_drewN | apply keep_drew | apply keep_alloc | refine keep_far ?_ GW181.out _) | exact HK.out)) (KeepBut.of_below hb g none) (.inl rfl)); have NB181_190 := Aside0.mk ((by rw [hg]; exact Nat.ne_of_lt (blk_lt (bU BK181)) : gb181 ≠ gb190)); have NB190_181 := Aside0.mk ((by rw [hg]; exact Nat.ne_of_gt (blk_lt (bU BK181)) : gb190 ≠ gb181)); replace BK181 := bb BK181 hb; have NB0_190 := Aside0.mk ((by rw [hg]; exact Nat.ne_of_lt (IsS44.lt (show IsS44 w0 _ g s0_0 t189 from iU HI0)) : g ≠ gb190)); have NB190_0 := Aside0.mk ((by rw [hg]; exact Nat.ne_of_gt (IsS44.lt (show IsS44 w0 _ g s0_0 t189 from iU HI0)) : gb190 ≠ g)); replace HI0 := Aside0.mk (IsS44.below (iU HI0) hb); clear hb hbox hg; have hnb23 := NB190_181.out; have hnc23 := NB181_190.out; have hnb24 := NB190_0.out; have hnc24 := NB0_190.out; have hcz25_0 := bC0 BK190; have hcz25_1 := bC1 BK190; have hcz25_2 := bC2 BK190; have hfz25_0 := blk_frozen BK190.out 0; have hfz25_1 := blk_frozen BK190.out 1; have hfz25_2 := blk_frozen BK190.out 2; obtain ⟨Ao26, co26, eo26⟩ := Kd.R_slice HO185.out; subst eo26; obtain ⟨Ao27, co27, eo27⟩ := Kd.R_slice HO188.out; subst eo27) | ((with_reducible refine gate_callee (f := 21) rfl ?_); refine goesA_ (some 13) rfl rfl Try.func21 rfl #[.agg #[.int .i64 t182, .slice Ao26 t183.length co26, .slice Ao27 t186.length co27]] rfl ?_; (with_reducible refine (trustquorumref02_Valid.calls k t182 _ _ t183 _ _ t186 t191 _ ?side1 ?side2 ?side3 ?side4 A5.out).mono ?_); (case side1 => refine (Kd.R_reads' (e := 3) (base := w.heap.size) (ok := fun k_ => True) (n := t183.length) (c := co26) ?_).2.2; exact (by (with_reducible repeat (first | apply Kd.R_alloc | apply Kd.R_drewN | apply Kd.R_drew)); exact (Kd.R_ft3 (Kd.R_types HO185.out BK190.out (by decide))))); (case side2 => exact (Kd.R_reads' HO185.out).2.1); (case side3 => refine (Kd.R_reads' (e := 27) (base := w.heap.size) (ok := fun k_ => ((some k_ ≠ (.slice Ao26 t183.length co26 : Value).ownBlock ∧ k_ ≠ gb181) ∧ k_ ≠ gb190)) (n := t186.length) (c := co27) ?_).2.2; exact (by (with_reducible repeat (first | apply Kd.R_alloc | apply Kd.R_drewN | apply Kd.R_drew)); exact (Kd.R_fw3 HO188.out (fun _ hk => hk.2)))); (case side4 => exact (Kd.R_reads' HO188.out).2.1); rintro e w28 ⟨rfl, hb⟩; refine ⟨_, rfl, ?_⟩; replace HO185 := Aside0.mk (Kd.R_below (by (with_reducible repeat (first | apply Kd.R_alloc | apply Kd.R_drewN | apply Kd.R_drew)); exact (Kd.R_ft3 (Kd.R_types HO185.out BK190.out (by decide)))) hb); replace HO188 := Aside0.mk (Kd.R_below (by (with_reducible repeat (first | apply Kd.R_alloc | apply Kd.R_drewN | apply Kd.R_drew)); exact (Kd.R_fw3 HO188.out (fun _ hk => hk.2))) hb); replace HI0 := Aside0.mk (IsS44.below (show IsS44 w0 (((w22.setCell ⟨gb190, 0, none⟩ (.int .i64 t182)).setCell ⟨gb190, 1, none⟩ (.slice Ao26 t183.length co26)).setCell ⟨gb190, 2, none⟩ (.slice Ao27 t186.length co27)) g s0_0 t189 from iU HI0) hb); replace BK181 := Aside0.mk (blk_below (g := gb181) (o := .cells #[.int .i64 0, .slice none 0 0, .slice none 0 0] 27 (0, 0)) (bF BK181) hb); replace BK190 := Aside0.mk (blk_below (g := gb190) (o := .cells #[.int .i64 t182, .slice Ao26 t183.length co26, .slice Ao27 t186.length co27] 27 (0, 0)) (bP3 BK190) hb); replace HK := Aside0.mk (KeepBut.trans (by repeat (first | (with_reducible first | exact HK.out | apply KeepBut.set_ | apply keep_drewN | apply keep_drew | apply keep_alloc | refine keep_far ?_ GW181.out _ | refine keep_far ?_ GW190.out _) | exact HK.out)) (KeepBut.of_below hb g none) (.inl rfl)); replace HB := bs HB hb; (try clear hb); (try clear hb2); (try clear hk); (try clear hi)) | ((with_reducible refine gate_callee (f := 10) rfl ?_); refine goesA_ (some 17) rfl rfl Try.func10 rfl #[.pointer (some ⟨g, 0, none⟩), .int .i64 a1] rfl ?_; (with_reducible refine (trustquorummake_Tape_N.calls g s0_0 t189 a1 t192 t193 w0 _ ?side1 ?side2 A19.out).mono ?_); (case side1 => exact iU HI0); (case side2 => exact bB HB); rintro e w29 ⟨rfl, hi, hb, hk⟩; refine ⟨_, rfl, ?_⟩; replace BK181 := Aside0.mk (KeepBut.blk hk (bU BK181) NB181_0.out (by simp)); replace HO185 := Aside0.mk (Kd.R_mono (Kd.R_keep (IsS44.apart (show IsS44 w0 _ g s0_0 t189 from iU HI0) (Kd.uR HO185) (by decide)) hk (fun _ h => h.2)) (fun _ h => h.1)); replace HO188 := Aside0.mk (Kd.R_mono (Kd.R_keep (IsS44.apart (show IsS44 w0 _ g s0_0 t189 from iU HI0) (Kd.uR HO188) (by decide)) hk (fun _ h => h.2)) (fun _ h => h.1)); replace BK190 := Aside0.mk (KeepBut.blk hk (bU BK190) NB190_0.out (by simp)); replace HK := Aside0.mk (KeepBut.trans (by repeat (first | (with_reducible first | exact HK.out | apply KeepBut.set_ | apply keep_drewN | apply keep_drew | apply keep_alloc | refine keep_far ?_ GW181.out _ | refine keep_far ?_ GW190.out _) | exact HK.out)) hk (.inl rfl)); replace HB := Aside0.mk (hb); replace HI0 := Aside0.mk (hi); (try clear hb); (try clear hb2); (try clear hk); (try clear hi)) | ((with_reducible refine gate_dst (N := 18) rfl ?_); refine Kd.R_lit (Kd.int .i64) _ 3 ?hg (N := 18) ?hd (xs := ([t192] : List Int)) (inner := [.int .i64 t192]) (ok := fun _ => True) (okp := fun _ => True) ?hr ?hp (fun _ hk => hk) trivial (Below.refl _ _) (Nat.le_refl _) (by simp) ?_; (case hd => rfl); (case hg => rfl); (case hr => first | (go_simp; done) | (go_simp; rfl)); (case hp => exact (Reps.one (show Kd.M (Kd.int .i64) _ _ _ t192 [.int .i64 t192] from rfl) (Reps.none _ _))); intro v195 w30 ho31 hb hg_ hnew_; clear hg_ hnew_; (first | rw [← Ny194.out] at ho31 | (simp only [Int.reduceToNat] at ho31; rw [← Ny194.out] at ho31)); replace HO188 := Aside0.mk (Kd.R_elder' (Kd.uR HO188) (Kd.R_base ho31) hb); have HO196 := Aside0.mk (Kd.R_lower (Kd.R_new' ho31 (Kd.R_lt (Kd.uR HO185))) (keep_size (w := w) (g := g) (row := none) (by repeat (first | (with_reducible first | exact HK.out | apply KeepBut.set_ | apply keep_drewN | apply keep_drew | apply keep_alloc | refine keep_far ?_ GW181.out _ | refine keep_far ?_ GW190.out _) | exact HK.out)))); replace HO185 := Aside0.mk (Kd.R_elder' (Kd.uR HO185) (Kd.R_base ho31) hb); replace HI0 := Aside0.mk (IsS44.below (iU HI0) hb); replace BK181 := bb BK181 hb; replace BK190 := bb BK190 hb; replace HK := Aside0.mk (KeepBut.trans (by repeat (first | (with_reducible first | exact HK.out | apply KeepBut.set_ | apply keep_drewN | apply keep_drew | apply keep_alloc | refine keep_far ?_ GW181.out _ | refine keep_far ?_ GW190.out _) | exact HK.out)) (KeepBut.of_below hb g none) (.inl rfl)); replace HB := bs HB hb; clear hb ho31; obtain ⟨Ao32, co32, eo32⟩ := Kd.R_slice HO196.out; subst eo32; have hnb33 := NB181_0.out; have hnc33 := NB0_181.out; have hcz34_0 := bC0 BK181; have hcz34_1 := bC1 BK181; have hcz34_2 := bC2 BK181; have hfz34_0 := blk_frozen BK181.out 0; have hfz34_1 := blk_frozen BK181.out 1; have hfz34_2 := blk_frozen BK181.out 2))
  refine bodyPost_ret (results_cell_row rfl _ _ gb181 27 #[.int .i64 1, .slice Ao32 y194.length co32, .slice none 0 0] (0, 0) _ rfl (bP3 BK181) Try.underlying27 rfl (by kernel_rfl)) rfl ?_
  exact ⟨_, _, by first | rfl | (simp [errW_none, errW_some] <;> rfl) | (simp [*, errW_none, errW_some] <;> rfl), by (with_reducible repeat (first | apply Kd.R_alloc | apply Kd.R_drewN | apply Kd.R_drew)); exact Kd.R_mono (Kd.R_ft3 (Kd.R_types HO196.out BK181.out (by decide))) (fun _ hk => trivial), by first | exact Kd.R_nil _ _ _ _ _ | exact Kd.N_nil _ _ _ _ _ | exact Kd.V_nil _ _ _ _ _ | exact Kd.Q_nil _ _ _ _ _ | exact Kd.S_nil _ _ _ _ _, iU HI0, bB HB, by repeat (first | (with_reducible first | exact HK.out | apply KeepBut.set_ | apply keep_drewN | apply keep_drew | apply keep_alloc | refine keep_far ?_ GW181.out _ | refine keep_far ?_ GW190.out _) | exact HK.out)⟩
end Go.Proofs.Ytfkpimjiaijmgaa.G
end
section
namespace Go.Proofs.Ytfkpimjiaijmgaa.G
open Go.RowKit Go.Proofs.YtfkpimjiaijmgaaW.PrintWords Go.Proofs.YtfkpimjiaijmgaaW.PrintLast Go.Proofs.YtfkpimjiaijmgaaW.PrintMore
attribute [local go_sem] max2_int min2_int max_two min_two max_three min_three max_four min_four   -- for this text's walks alone
set_option linter.unusedVariables false
set_option linter.unusedSimpArgs false
mutual
def threshold_Depth.l0 : Nat → Int → List (S27) → Int → Int → Option (Int)
 | 0, _, _, _, _ => none
 | k + 1, x3, x7, x8, x9 => if x9 < x8 then (if 0 ≤ x9 then (if x9 < (x7.length : Int) then ((threshold_Depth.f k ((rd_T27 x7 x9).f0) ((rd_T27 x7 x9).f1) ((rd_T27 x7 x9).f2)).bind fun t200 => (threshold_Depth.l0 k (mx x3 t200) x7 x8 (wrap64 (x9 + 1)))) else (none)) else (none)) else (some (wrap64 (x3 + 1)))
def threshold_Depth.f : Nat → Int → List Int → List (S27) → Option (Int)
 | 0, _, _, _ => none
 | k + 1, a0_0, l0_1, l0_2 => threshold_Depth.l0 k 0 l0_2 (l0_2.length : Int) 0
end
set_option maxHeartbeats 8000000 in
set_option maxRecDepth 100000 in
theorem threshold_Depth.calls (k : Nat) : ∀ (a0_0 : Int) (A0_1 : Option Addr) (c0_1 : Nat) (l0_1 : List Int) (A0_2 : Option Addr) (c0_2 : Nat) (l0_2 : List (S27)) (r : Int) (w : World) (hr0_1 : Kd.C (Kd.int .i64) w A0_1 l0_1.length l0_1) (hc0_1 : l0_1.length ≤ c0_1) (hr0_2 : Kd.C k27 w A0_2 l0_2.length l0_2) (hc0_2 : l0_2.length ≤ c0_2) (h : threshold_Depth.f k a0_0 l0_1 l0_2 = some r),
 Calls Try.prog 41 #[.agg #[.int .i64 a0_0, .slice A0_1 l0_1.length c0_1, .slice A0_2 l0_2.length c0_2]] w fun e w' => e = .returned (.int .i64 r) ∧ Below w.heap.size w w' := by
 induction k using Nat.strongRecOn with
 | _ k ih =>
 intro a0_0 A0_1 c0_1 l0_1 A0_2 c0_2 l0_2 r w hr0_1 hc0_1 hr0_2 hc0_2 h
 cases k with
 | zero => exact absurd h (by simp [threshold_Depth.f])
 | succ k =>
 simp only [threshold_Depth.f] at h
 have hu27 := Try.underlying27
 have HR0_1 := Aside0.mk hr0_1
 have HC0_1 := Aside0.mk hc0_1
 clear hr0_1 hc0_1
 have HR0_2 := Aside0.mk hr0_2
 have HC0_2 := Aside0.mk hc0_2
 clear hr0_2 hc0_2
 have HB := Aside0.mk (Below.refl w.heap.size w)
 have H : (threshold_Depth.l0 k 0 l0_2 (l0_2.length : Int) 0) = some r := h
 clear h
 have H' := Aside0.mk H
 clear H
 go_enter Try.func41, Try.ntmps41
 go_wp2_with (first | ((with_reducible refine gate_dst (N := 1) rfl ?_); refine box_event ?hg (N := 1) ?hd (cs := #[.int .i64 a0_0, .slice A0_1 l0_1.length c0_1, .slice A0_2 l0_2.length c0_2]) (t := 27) ?hr ?_; (case hd => rfl); (case hg => rfl); (case hr => first | (go_simp; done) | (go_simp; rfl)); intro gb197 hg w2 hbox hb; have BK197 := Aside0.mk (hbox); have GW197 := Aside0.mk ((by rw [hg]; exact (below_size (bB HB)) : w.heap.size ≤ gb197)); have GE197 := Aside0.mk ((by rw [hg]; exact (below_size (bB HB)) : w.heap.size ≤ gb197)); replace HB := bs HB hb; clear hb hbox hg; have hcz3_0 := bC0 BK197; have hcz3_1 := bC1 BK197; have hcz3_2 := bC2 BK197; have hfz3_0 := blk_frozen BK197.out 0; have hfz3_1 := blk_frozen BK197.out 1; have hfz3_2 := blk_frozen BK197.out 2))
 go_loopg [3, 9] k (fun kq v3 v9 w' => ∃ (x3_1 : Int) (x9_1 : Int), v3 = .int .i64 x3_1 ∧ v9 = .int .i64 x9_1 ∧ Aside0 (threshold_Depth.l0 kq x3_1 l0_2 (l0_2.length : Int) x9_1 = some r) ∧ Aside0 (kq ≤ k) ∧ Aside0 (w'.heap[gb197]? = some (.cells #[.int .i64 a0_0, (.slice A0_1 l0_1.length c0_1), (.slice A0_2 l0_2.length c0_2)] 27 (0, 0))) ∧ Aside0 (Below w.heap.size w w'))
 case atStart => exact ⟨(0), (0), (by first | rfl | (simp; done) | (simp [*]; done)), (by first | rfl | (simp; done) | (simp [*]; done)), H', ⟨Nat.le_refl _⟩, ⟨bU BK197⟩, ⟨bB HB⟩⟩
 case round =>
  clear H'
  try clear p2
  try clear hcz3_0
  try clear hcz3_1
  try clear hcz3_2
  try clear hfz3_0
  try clear hfz3_1
  try clear hfz3_2
  obtain ⟨x3_1, x9_1, rfl, rfl, HA, HK1, BK197, HB⟩ := hrel
  cases gk with
  | zero => exact absurd HA.out (by simp [threshold_Depth.l0])
  | succ k1 =>
   have H := HA.out
   clear HA
   simp only [threshold_Depth.l0] at H
   by_cases c4 : x9_1 < (l0_2.length : Int)
   ·rw [if_pos c4] at H
    have c4b0 : decide (x9_1 < (l0_2.length : Int)) = true := decide_eq_true c4
    clear c4
    by_cases c5 : 0 ≤ x9_1
    ·rw [if_pos c5] at H
     have c5b0 : decide (0 ≤ x9_1) = true := decide_eq_true c5
     clear c5
     by_cases c6 : x9_1 < (l0_2.length : Int)
     ·rw [if_pos c6] at H
      have c6b0 : decide (x9_1 < (l0_2.length : Int)) = true := decide_eq_true c6
      clear c6
      replace H := Option.bind_eq_some_iff.mp H
      obtain ⟨t200, A70, H⟩ := H
      replace H : (threshold_Depth.l0 k1 (mx x3_1 t200) l0_2 (l0_2.length : Int) (wrap64 (x9_1 + 1))) = some r := H
      have A7 := Aside0.mk A70
      clear A70
      obtain ⟨ji8, hji8⟩ : ∃ j_ : Int, (mx x3_1 t200) = j_ := ⟨_, rfl⟩
      replace H : (threshold_Depth.l0 k1 ji8 l0_2 (l0_2.length : Int) (wrap64 (x9_1 + 1))) = some r := by first | (rw [hji8] at H; exact H) | (simp only [hji8] at H ⊢; exact H)
      (try rw [hji8] at A7)
      have hji8_ : (if x3_1 < t200 then t200 else x3_1) = ji8 := hji8
      have H' := Aside0.mk H
      clear H
      have p198 : 0 ≤ (x9_1 : Int) := of_decide_eq_true (by first | (with_reducible assumption) | assumption)
      have q198 : x9_1 < (l0_2.length : Int) := of_decide_eq_true (by first | (with_reducible assumption) | assumption)
      obtain ⟨ad198, A198_1, c198_1, A198_2, c198_2, e198, hx198_0, hx198_1, hx198_2, hl198_1, hi198_1, hl198_2, hi198_2⟩ := at_T27 HR0_2.out x9_1 p198 q198
      cases e198
      replace hx198_0 := (HB.out.cell (World.block_lt_of_cell? w _ hx198_0)).trans hx198_0
      replace hx198_1 := (HB.out.cell (World.block_lt_of_cell? w _ hx198_1)).trans hx198_1
      replace hx198_2 := (HB.out.cell (World.block_lt_of_cell? w _ hx198_2)).trans hx198_2
      have HR198_1 := Aside0.mk hi198_1
      have HC198_1 := Aside0.mk hl198_1
      clear hi198_1 hl198_1
      have HR198_2 := Aside0.mk hi198_2
      have HC198_2 := Aside0.mk hl198_2
      clear hi198_2 hl198_2
      replace p198 := eq_true p198
      replace q198 := eq_true q198
      go_wp2_with (first | ((with_reducible refine gate_dst (N := 5) rfl ?_); refine box_event ?hg (N := 5) ?hd (cs := #[.int .i64 0, .slice none 0 0, .slice none 0 0]) (t := 27) ?hr ?_; (case hd => rfl); (case hg => rfl); (case hr => first | (go_simp; done) | (go_simp; rfl)); intro gb199 hg w9 hbox hb; have BK199 := Aside0.mk (hbox); have GW199 := Aside0.mk ((by rw [hg]; exact (below_size (bB HB)) : w.heap.size ≤ gb199)); have GE199 := Aside0.mk ((by rw [hg]; exact (below_size (bB HB)) : w.heap.size ≤ gb199)); replace HB := bs HB hb; have NB197_199 := Aside0.mk ((by rw [hg]; exact Nat.ne_of_lt (blk_lt (bU BK197)) : gb197 ≠ gb199)); have NB199_197 := Aside0.mk ((by rw [hg]; exact Nat.ne_of_gt (blk_lt (bU BK197)) : gb199 ≠ gb197)); replace BK197 := bb BK197 hb; clear hb hbox hg; have hnb10 := NB199_197.out; have hnc10 := NB197_199.out; have hcz11_0 := bC0 BK199; have hcz11_1 := bC1 BK199; have hcz11_2 := bC2 BK199; have hfz11_0 := blk_frozen BK199.out 0; have hfz11_1 := blk_frozen BK199.out 1; have hfz11_2 := blk_frozen BK199.out 2) | ((with_reducible refine gate_callee (f := 41) rfl ?_); refine goesA_ (some 15) rfl rfl Try.func41 rfl #[.agg #[.int .i64 ((rd_T27 l0_2 x9_1).f0), .slice A198_1 ((rd_T27 l0_2 x9_1).f1).length c198_1, .slice A198_2 ((rd_T27 l0_2 x9_1).f2).length c198_2]] rfl ?_; (with_reducible refine (ih k1 (by have := HK1.out; omega) ((rd_T27 l0_2 x9_1).f0) _ _ ((rd_T27 l0_2 x9_1).f1) _ _ ((rd_T27 l0_2 x9_1).f2) t200 _ ?side1 ?side2 ?side3 ?side4 A7.out).mono ?_); (case side1 => exact Kd.C_below HR198_1.out (bB HB)); (case side2 => exact HC198_1.out); (case side3 => exact Kd.C_below HR198_2.out (bB HB)); (case side4 => exact HC198_2.out); rintro e w12 ⟨rfl, hb⟩; refine ⟨_, rfl, ?_⟩; replace BK197 := Aside0.mk (blk_below (g := gb197) (o := .cells #[.int .i64 a0_0, .slice A0_1 l0_1.length c0_1, .slice (some ad198) l0_2.length c0_2] 27 (0, 0)) (bF BK197) hb); replace BK199 := Aside0.mk (blk_below (g := gb199) (o := .cells #[.int .i64 ((rd_T27 l0_2 x9_1).f0), .slice A198_1 ((rd_T27 l0_2 x9_1).f1).length c198_1, .slice A198_2 ((rd_T27 l0_2 x9_1).f2).length c198_2] 27 (0, 0)) (bP3 BK199) hb); replace HB := bs HB hb; (try clear hb); (try clear hb2); (try clear hk); (try clear hi)))
      go_roundg k1
      case measure => have := HK1.out; omega
      case rel => exact ⟨(ji8), (wrap64 (x9_1 + 1)), (by first | rfl | (simp; done) | (simp only [← hji8] <;> (first | rfl | simp)) | (simp [*]; done)), (by first | rfl | (simp; done) | (simp [*]; done)), H', ⟨by have := HK1.out; omega⟩, ⟨bU BK197⟩, ⟨bB HB⟩⟩
     ·rw [if_neg c6] at H
      exact absurd H (by simp)
    ·rw [if_neg c5] at H
     exact absurd H (by simp)
   ·rw [if_neg c4] at H
    have c4b0 : decide (x9_1 < (l0_2.length : Int)) = false := decide_eq_false c4
    clear c4
    obtain rfl := Option.some.inj H
    go_wp2
    go_ret
    exact ⟨by first | rfl | (simp [errW_none, errW_some] <;> rfl) | (simp [*, errW_none, errW_some] <;> rfl), bB HB⟩
mutual
def threshold_Size.l0 : Nat → Int → List (S27) → Int → Int → Option (Int)
 | 0, _, _, _, _ => none
 | k + 1, x3, x14, x15, x16 => if x16 < x15 then (if 0 ≤ x16 then (if x16 < (x14.length : Int) then ((threshold_Size.f k ((rd_T27 x14 x16).f0) ((rd_T27 x14 x16).f1) ((rd_T27 x14 x16).f2)).bind fun t204 => (threshold_Size.l0 k (wrap64 (x3 + t204)) x14 x15 (wrap64 (x16 + 1)))) else (none)) else (none)) else (some x3)
def threshold_Size.f : Nat → Int → List Int → List (S27) → Option (Int)
 | 0, _, _, _ => none
 | k + 1, a0_0, l0_1, l0_2 => threshold_Size.l0 k (wrap64 ((l0_1.length : Int) + (l0_2.length : Int))) l0_2 (l0_2.length : Int) 0
end
set_option maxHeartbeats 8000000 in
set_option maxRecDepth 100000 in
theorem threshold_Size.calls (k : Nat) : ∀ (a0_0 : Int) (A0_1 : Option Addr) (c0_1 : Nat) (l0_1 : List Int) (A0_2 : Option Addr) (c0_2 : Nat) (l0_2 : List (S27)) (r : Int) (w : World) (hr0_1 : Kd.C (Kd.int .i64) w A0_1 l0_1.length l0_1) (hc0_1 : l0_1.length ≤ c0_1) (hr0_2 : Kd.C k27 w A0_2 l0_2.length l0_2) (hc0_2 : l0_2.length ≤ c0_2) (h : threshold_Size.f k a0_0 l0_1 l0_2 = some r),
 Calls Try.prog 42 #[.agg #[.int .i64 a0_0, .slice A0_1 l0_1.length c0_1, .slice A0_2 l0_2.length c0_2]] w fun e w' => e = .returned (.int .i64 r) ∧ Below w.heap.size w w' := by
 induction k using Nat.strongRecOn with
 | _ k ih =>
 intro a0_0 A0_1 c0_1 l0_1 A0_2 c0_2 l0_2 r w hr0_1 hc0_1 hr0_2 hc0_2 h
 cases k with
 | zero => exact absurd h (by simp [threshold_Size.f])
 | succ k =>
 simp only [threshold_Size.f] at h
 have hu27 := Try.underlying27
 have HR0_1 := Aside0.mk hr0_1
 have HC0_1 := Aside0.mk hc0_1
 clear hr0_1 hc0_1
 have HR0_2 := Aside0.mk hr0_2
 have HC0_2 := Aside0.mk hc0_2
 clear hr0_2 hc0_2
 have HB := Aside0.mk (Below.refl w.heap.size w)
 have H : (threshold_Size.l0 k (wrap64 ((l0_1.length : Int) + (l0_2.length : Int))) l0_2 (l0_2.length : Int) 0) = some r := h
 clear h
 have H' := Aside0.mk H
 clear H
 go_enter Try.func42, Try.ntmps42
 go_wp2_with (first | ((with_reducible refine gate_dst (N := 1) rfl ?_); refine box_event ?hg (N := 1) ?hd (cs := #[.int .i64 a0_0, .slice A0_1 l0_1.length c0_1, .slice A0_2 l0_2.length c0_2]) (t := 27) ?hr ?_; (case hd => rfl); (case hg => rfl); (case hr => first | (go_simp; done) | (go_simp; rfl)); intro gb201 hg w2 hbox hb; have BK201 := Aside0.mk (hbox); have GW201 := Aside0.mk ((by rw [hg]; exact (below_size (bB HB)) : w.heap.size ≤ gb201)); have GE201 := Aside0.mk ((by rw [hg]; exact (below_size (bB HB)) : w.heap.size ≤ gb201)); replace HB := bs HB hb; clear hb hbox hg; have hcz3_0 := bC0 BK201; have hcz3_1 := bC1 BK201; have hcz3_2 := bC2 BK201; have hfz3_0 := blk_frozen BK201.out 0; have hfz3_1 := blk_frozen BK201.out 1; have hfz3_2 := blk_frozen BK201.out 2))
 go_loopg [3, 16] k (fun kq v3 v16 w' => ∃ (x3_1 : Int) (x16_1 : Int), v3 = .int .i64 x3_1 ∧ v16 = .int .i64 x16_1 ∧ Aside0 (threshold_Size.l0 kq x3_1 l0_2 (l0_2.length : Int) x16_1 = some r) ∧ Aside0 (kq ≤ k) ∧ Aside0 (w'.heap[gb201]? = some (.cells #[.int .i64 a0_0, (.slice A0_1 l0_1.length c0_1), (.slice A0_2 l0_2.length c0_2)] 27 (0, 0))) ∧ Aside0 (Below w.heap.size w w'))
 case atStart => exact ⟨(wrap64 ((l0_1.length : Int) + (l0_2.length : Int))), (0), (by first | rfl | (simp; done) | (simp [*]; done)), (by first | rfl | (simp; done) | (simp [*]; done)), H', ⟨Nat.le_refl _⟩, ⟨bU BK201⟩, ⟨bB HB⟩⟩
 case round =>
  clear H'
  try clear p2
  try clear hcz3_0
  try clear hcz3_1
  try clear hcz3_2
  try clear hfz3_0
  try clear hfz3_1
  try clear hfz3_2
  obtain ⟨x3_1, x16_1, rfl, rfl, HA, HK1, BK201, HB⟩ := hrel
  cases gk with
  | zero => exact absurd HA.out (by simp [threshold_Size.l0])
  | succ k1 =>
   have H := HA.out
   clear HA
   simp only [threshold_Size.l0] at H
   by_cases c4 : x16_1 < (l0_2.length : Int)
   ·rw [if_pos c4] at H
    have c4b0 : decide (x16_1 < (l0_2.length : Int)) = true := decide_eq_true c4
    clear c4
    by_cases c5 : 0 ≤ x16_1
    ·rw [if_pos c5] at H
     have c5b0 : decide (0 ≤ x16_1) = true := decide_eq_true c5
     clear c5
     by_cases c6 : x16_1 < (l0_2.length : Int)
     ·rw [if_pos c6] at H
      have c6b0 : decide (x16_1 < (l0_2.length : Int)) = true := decide_eq_true c6
      clear c6
      replace H := Option.bind_eq_some_iff.mp H
      obtain ⟨t204, A70, H⟩ := H
      replace H : (threshold_Size.l0 k1 (wrap64 (x3_1 + t204)) l0_2 (l0_2.length : Int) (wrap64 (x16_1 + 1))) = some r := H
      have A7 := Aside0.mk A70
      clear A70
      have H' := Aside0.mk H
      clear H
      have p202 : 0 ≤ (x16_1 : Int) := of_decide_eq_true (by first | (with_reducible assumption) | assumption)
      have q202 : x16_1 < (l0_2.length : Int) := of_decide_eq_true (by first | (with_reducible assumption) | assumption)
      obtain ⟨ad202, A202_1, c202_1, A202_2, c202_2, e202, hx202_0, hx202_1, hx202_2, hl202_1, hi202_1, hl202_2, hi202_2⟩ := at_T27 HR0_2.out x16_1 p202 q202
      cases e202
      replace hx202_0 := (HB.out.cell (World.block_lt_of_cell? w _ hx202_0)).trans hx202_0
      replace hx202_1 := (HB.out.cell (World.block_lt_of_cell? w _ hx202_1)).trans hx202_1
      replace hx202_2 := (HB.out.cell (World.block_lt_of_cell? w _ hx202_2)).trans hx202_2
      have HR202_1 := Aside0.mk hi202_1
      have HC202_1 := Aside0.mk hl202_1
      clear hi202_1 hl202_1
      have HR202_2 := Aside0.mk hi202_2
      have HC202_2 := Aside0.mk hl202_2
      clear hi202_2 hl202_2
      replace p202 := eq_true p202
      replace q202 := eq_true q202
      go_wp2_with (first | ((with_reducible refine gate_dst (N := 5) rfl ?_); refine box_event ?hg (N := 5) ?hd (cs := #[.int .i64 0, .slice none 0 0, .slice none 0 0]) (t := 27) ?hr ?_; (case hd => rfl); (case hg => rfl); (case hr => first | (go_simp; done) | (go_simp; rfl)); intro gb203 hg w8 hbox hb; have BK203 := Aside0.mk (hbox); have GW203 := Aside0.mk ((by rw [hg]; exact (below_size (bB HB)) : w.heap.size ≤ gb203)); have GE203 := Aside0.mk ((by rw [hg]; exact (below_size (bB HB)) : w.heap.size ≤ gb203)); replace HB := bs HB hb; have NB201_203 := Aside0.mk ((by rw [hg]; exact Nat.ne_of_lt (blk_lt (bU BK201)) : gb201 ≠ gb203)); have NB203_201 := Aside0.mk ((by rw [hg]; exact Nat.ne_of_gt (blk_lt (bU BK201)) : gb203 ≠ gb201)); replace BK201 := bb BK201 hb; clear hb hbox hg; have hnb9 := NB203_201.out; have hnc9 := NB201_203.out; have hcz10_0 := bC0 BK203; have hcz10_1 := bC1 BK203; have hcz10_2 := bC2 BK203; have hfz10_0 := blk_frozen BK203.out 0; have hfz10_1 := blk_frozen BK203.out 1; have hfz10_2 := blk_frozen BK203.out 2) | ((with_reducible refine gate_callee (f := 42) rfl ?_); refine goesA_ (some 22) rfl rfl Try.func42 rfl #[.agg #[.int .i64 ((rd_T27 l0_2 x16_1).f0), .slice A202_1 ((rd_T27 l0_2 x16_1).f1).length c202_1, .slice A202_2 ((rd_T27 l0_2 x16_1).f2).length c202_2]] rfl ?_; (with_reducible refine (ih k1 (by have := HK1.out; omega) ((rd_T27 l0_2 x16_1).f0) _ _ ((rd_T27 l0_2 x16_1).f1) _ _ ((rd_T27 l0_2 x16_1).f2) t204 _ ?side1 ?side2 ?side3 ?side4 A7.out).mono ?_); (case side1 => exact Kd.C_below HR202_1.out (bB HB)); (case side2 => exact HC202_1.out); (case side3 => exact Kd.C_below HR202_2.out (bB HB)); (case side4 => exact HC202_2.out); rintro e w11 ⟨rfl, hb⟩; refine ⟨_, rfl, ?_⟩; replace BK201 := Aside0.mk (blk_below (g := gb201) (o := .cells #[.int .i64 a0_0, .slice A0_1 l0_1.length c0_1, .slice (some ad202) l0_2.length c0_2] 27 (0, 0)) (bF BK201) hb); replace BK203 := Aside0.mk (blk_below (g := gb203) (o := .cells #[.int .i64 ((rd_T27 l0_2 x16_1).f0), .slice A202_1 ((rd_T27 l0_2 x16_1).f1).length c202_1, .slice A202_2 ((rd_T27 l0_2 x16_1).f2).length c202_2] 27 (0, 0)) (bP3 BK203) hb); replace HB := bs HB hb; (try clear hb); (try clear hb2); (try clear hk); (try clear hi)))
      go_roundg k1
      case measure => have := HK1.out; omega
      case rel => exact ⟨(wrap64 (x3_1 + t204)), (wrap64 (x16_1 + 1)), (by first | rfl | (simp; done) | (simp [*]; done)), (by first | rfl | (simp; done) | (simp [*]; done)), H', ⟨by have := HK1.out; omega⟩, ⟨bU BK201⟩, ⟨bB HB⟩⟩
     ·rw [if_neg c6] at H
      exact absurd H (by simp)
    ·rw [if_neg c5] at H
     exact absurd H (by simp)
   ·rw [if_neg c4] at H
    have c4b0 : decide (x16_1 < (l0_2.length : Int)) = false := decide_eq_false c4
    clear c4
    obtain rfl := Option.some.inj H
    go_wp2
    go_ret
    exact ⟨by first | rfl | (simp [errW_none, errW_some] <;> rfl) | (simp [*, errW_none, errW_some] <;> rfl), bB HB⟩
def nodeset_below.f (a0 : Int) (a1 : Int) : Option (Bool) := if a0 ≥ 0 then (if 0 ≤ a1 then (some (decide (a0 < (shl .i64 1 a1)))) else (none)) else (some false)
set_option maxHeartbeats 8000000 in
set_option maxRecDepth 100000 in
theorem nodeset_below.calls (a0 : Int) (a1 : Int) (r : Bool) (w : World) (h : nodeset_below.f a0 a1 = some r) :
 Calls Try.prog 65 #[.int .i64 a0, .int .i64 a1] w fun e w' => e = .returned (.bool r) ∧ Drawn0 w w' := by
 have H : (if a0 ≥ 0 then (if 0 ≤ a1 then (some (decide (a0 < (shl .i64 1 a1)))) else (none)) else (some false)) = some r := h
 clear h
 by_cases c3 : a0 ≥ 0
 ·rw [if_pos c3] at H
  have c3b0 : decide (0 ≤ a0) = true := decide_eq_true c3
  clear c3
  by_cases c4 : 0 ≤ a1
  ·rw [if_pos c4] at H
   have c4b0 := eq_true c4
   have c4b1 : decide (0 ≤ a1) = true := decide_eq_true c4
   clear c4
   obtain ⟨ji5, hji5⟩ : ∃ j_ : Int, (shl .i64 1 a1) = j_ := ⟨_, rfl⟩
   replace H : (some (decide (a0 < (ji5)))) = some r := by first | (rw [hji5] at H; exact H) | (simp only [hji5] at H ⊢; exact H)
   have hji5_ : (IntKind.i64.wrap (1 * 2 ^ min a1.toNat 64)) = ji5 := hji5
   have hji5z : a1 ≤ 64 → (IntKind.i64.wrap (1 * 2 ^ a1.toNat)) = ji5 := shl_small hji5
   have hji5u : (IntKind.i64.wrap (2 ^ min a1.toNat 64)) = ji5 := by have h_ := hji5_; rw [Int.one_mul] at h_; exact h_
   have hji5v : a1 ≤ 64 → (IntKind.i64.wrap (2 ^ a1.toNat)) = ji5 := fun hle_ => by have h_ := hji5z hle_; rw [Int.one_mul] at h_; exact h_
   have hji5y : (wrap64 (1 * 2 ^ min a1.toNat 64)) = ji5 := (i64_w _).symm.trans hji5_
   have hji5x : a1 ≤ 64 → (wrap64 (1 * 2 ^ a1.toNat)) = ji5 := fun h_ => (i64_w _).symm.trans (hji5z h_)
   obtain rfl := Option.some.inj H
   go_enter Try.func65, Try.ntmps65
   go_wp2
   go_ret
   exact ⟨by first | rfl | (simp; done) | (simp only [← hji5] <;> (first | rfl | simp)) | (simp [*]; done), by repeat (first | exact Drawn0.refl _ | apply Drawn0.step)⟩
  ·rw [if_neg c4] at H
   exact absurd H (by simp)
 ·rw [if_neg c3] at H
  have c3b0 : decide (0 ≤ a0) = false := decide_eq_false c3
  clear c3
  obtain rfl := Option.some.inj H
  go_enter Try.func65, Try.ntmps65
  go_wp2
  go_ret
  exact ⟨by first | rfl | (simp; done) | (simp [*]; done), by repeat (first | exact Drawn0.refl _ | apply Drawn0.step)⟩
def nodeset_Valid.f (a0 : Int) : Option (Bool) := (nodeset_below.f a0 10).bind fun t205 => (some t205)
set_option maxHeartbeats 8000000 in
set_option maxRecDepth 100000 in
theorem nodeset_Valid.calls (a0 : Int) (r : Bool) (w : World) (h : nodeset_Valid.f a0 = some r) :
 Calls Try.prog 46 #[.int .i64 a0] w fun e w' => e = .returned (.bool r) ∧ Drawn0 w w' := by
 have H : ((nodeset_below.f a0 10).bind fun t205 => (some t205)) = some r := h
 clear h
 replace H := Option.bind_eq_some_iff.mp H
 obtain ⟨t205, A20, H⟩ := H
 replace H : (some t205) = some r := H
 have A2 := Aside0.mk A20
 clear A20
 obtain rfl := Option.some.inj H
 go_enter Try.func46, Try.ntmps46
 go_wp2_with (first | ((with_reducible refine gate_callee (f := 65) rfl ?_); refine goesA_ (some 4) rfl rfl Try.func65 rfl #[.int .i64 a0, .int .i64 10] rfl ?_; (with_reducible refine (nodeset_below.calls a0 10 t205 _ A2.out).mono ?_); rintro e w' ⟨rfl, ⟨nd, rfl⟩⟩; refine ⟨_, rfl, ?_⟩))
 go_ret
 exact ⟨by first | rfl | (simp; done) | (simp [*]; done), by repeat (first | exact Drawn0.refl _ | apply Drawn0.step)⟩
def nodeset_Has.f (a0 : Int) (a1 : Int) : Option (Bool) := (nodeset_Valid.f a0).bind fun t206 => (if t206 = true then (if a1 ≥ 0 then (if a1 < 10 then (if 0 ≤ a1 then (some ((Go.bits .and .i64 a0 (shl .i64 1 a1)) != 0)) else (none)) else (some false)) else (some false)) else (some false))
set_option maxHeartbeats 8000000 in
set_option maxRecDepth 100000 in
theorem nodeset_Has.calls (a0 : Int) (a1 : Int) (r : Bool) (w : World) (h : nodeset_Has.f a0 a1 = some r) :
 Calls Try.prog 47 #[.int .i64 a0, .int .i64 a1] w fun e w' => e = .returned (.bool r) ∧ Drawn0 w w' := by
 have H : ((nodeset_Valid.f a0).bind fun t206 => (if t206 = true then (if a1 ≥ 0 then (if a1 < 10 then (if 0 ≤ a1 then (some ((Go.bits .and .i64 a0 (shl .i64 1 a1)) != 0)) else (none)) else (some false)) else (some false)) else (some false))) = some r := h
 clear h
 replace H := Option.bind_eq_some_iff.mp H
 obtain ⟨t206, A30, H⟩ := H
 replace H : (if t206 = true then (if a1 ≥ 0 then (if a1 < 10 then (if 0 ≤ a1 then (some ((Go.bits .and .i64 a0 (shl .i64 1 a1)) != 0)) else (none)) else (some false)) else (some false)) else (some false)) = some r := H
 have A3 := Aside0.mk A30
 clear A30
 by_cases c4 : t206 = true
 ·subst c4
  have H1 : (if a1 ≥ 0 then (if a1 < 10 then (if 0 ≤ a1 then (some ((Go.bits .and .i64 a0 (shl .i64 1 a1)) != 0)) else (none)) else (some false)) else (some false)) = some r := by rw [if_pos rfl] at H; exact H
  clear H
  have H := H1
  clear H1
  by_cases c5 : a1 ≥ 0
  ·rw [if_pos c5] at H
   have c5b0 : decide (0 ≤ a1) = true := decide_eq_true c5
   clear c5
   by_cases c6 : a1 < 10
   ·rw [if_pos c6] at H
    have c6b0 : decide (a1 < 10) = true := decide_eq_true c6
    clear c6
    by_cases c7 : 0 ≤ a1
    ·rw [if_pos c7] at H
     have c7b0 := eq_true c7
     have c7b1 : decide (0 ≤ a1) = true := decide_eq_true c7
     clear c7
     obtain ⟨ji8, hji8⟩ : ∃ j_ : Int, (shl .i64 1 a1) = j_ := ⟨_, rfl⟩
     replace H : (some ((Go.bits .and .i64 a0 (ji8)) != 0)) = some r := by first | (rw [hji8] at H; exact H) | (simp only [hji8] at H ⊢; exact H)
     (try rw [hji8] at A3)
     have hji8_ : (IntKind.i64.wrap (1 * 2 ^ min a1.toNat 64)) = ji8 := hji8
     have hji8z : a1 ≤ 64 → (IntKind.i64.wrap (1 * 2 ^ a1.toNat)) = ji8 := shl_small hji8
     have hji8u : (IntKind.i64.wrap (2 ^ min a1.toNat 64)) = ji8 := by have h_ := hji8_; rw [Int.one_mul] at h_; exact h_
     have hji8v : a1 ≤ 64 → (IntKind.i64.wrap (2 ^ a1.toNat)) = ji8 := fun hle_ => by have h_ := hji8z hle_; rw [Int.one_mul] at h_; exact h_
     have hji8y : (wrap64 (1 * 2 ^ min a1.toNat 64)) = ji8 := (i64_w _).symm.trans hji8_
     have hji8x : a1 ≤ 64 → (wrap64 (1 * 2 ^ a1.toNat)) = ji8 := fun h_ => (i64_w _).symm.trans (hji8z h_)
     obtain rfl := Option.some.inj H
     go_enter Try.func47, Try.ntmps47
     go_wp2_with (first | ((with_reducible refine gate_callee (f := 46) rfl ?_); refine goesA_ (some 6) rfl rfl Try.func46 rfl #[.int .i64 a0] rfl ?_; (with_reducible refine (nodeset_Valid.calls a0 true _ A3.out).mono ?_); rintro e w' ⟨rfl, ⟨nd, rfl⟩⟩; refine ⟨_, rfl, ?_⟩))
     go_ret
     exact ⟨by first | rfl | (simp; done) | (simp only [← hji8] <;> (first | rfl | simp)) | (simp [*]; done), by repeat (first | exact Drawn0.refl _ | apply Drawn0.step)⟩
    ·rw [if_neg c7] at H
     exact absurd H (by simp)
   ·rw [if_neg c6] at H
    have c6b0 : decide (a1 < 10) = false := decide_eq_false c6
    clear c6
    obtain rfl := Option.some.inj H
    go_enter Try.func47, Try.ntmps47
    go_wp2_with (first | ((with_reducible refine gate_callee (f := 46) rfl ?_); refine goesA_ (some 6) rfl rfl Try.func46 rfl #[.int .i64 a0] rfl ?_; (with_reducible refine (nodeset_Valid.calls a0 true _ A3.out).mono ?_); rintro e w' ⟨rfl, ⟨nd, rfl⟩⟩; refine ⟨_, rfl, ?_⟩))
    go_ret
    exact ⟨by first | rfl | (simp; done) | (simp [*]; done), by repeat (first | exact Drawn0.refl _ | apply Drawn0.step)⟩
  ·rw [if_neg c5] at H
   have c5b0 : decide (0 ≤ a1) = false := decide_eq_false c5
   clear c5
   obtain rfl := Option.some.inj H
   go_enter Try.func47, Try.ntmps47
   go_wp2_with (first | ((with_reducible refine gate_callee (f := 46) rfl ?_); refine goesA_ (some 6) rfl rfl Try.func46 rfl #[.int .i64 a0] rfl ?_; (with_reducible refine (nodeset_Valid.calls a0 true _ A3.out).mono ?_); rintro e w' ⟨rfl, ⟨nd, rfl⟩⟩; refine ⟨_, rfl, ?_⟩))
   go_ret
   exact ⟨by first | rfl | (simp; done) | (simp [*]; done), by repeat (first | exact Drawn0.refl _ | apply Drawn0.step)⟩
 ·replace c4 := Bool.eq_false_iff.mpr c4
  subst c4
  have H1 : (some false) = some r := by rw [if_neg (show ¬ (false = true) by decide)] at H; exact H
  clear H
  have H := H1
  clear H1
  obtain rfl := Option.some.inj H
  go_enter Try.func47, Try.ntmps47
  go_wp2_with (first | ((with_reducible refine gate_callee (f := 46) rfl ?_); refine goesA_ (some 6) rfl rfl Try.func46 rfl #[.int .i64 a0] rfl ?_; (with_reducible refine (nodeset_Valid.calls a0 false _ A3.out).mono ?_); rintro e w' ⟨rfl, ⟨nd, rfl⟩⟩; refine ⟨_, rfl, ?_⟩))
  go_ret
  exact ⟨by first | rfl | (simp; done) | (simp [*]; done), by repeat (first | exact Drawn0.refl _ | apply Drawn0.step)⟩
mutual
def nodeset_Of.l0 : Nat → Int → List Int → Int → Int → Option (Int × Int)
 | 0, _, _, _, _ => none
 | k + 1, x4, x7, x8, x9 => if x9 < x8 then (if 0 ≤ x9 then (if x9 < (x7.length : Int) then (if (rd x7 x9) < 0 then (nodeset_Of.j1 k x4 (rd x7 x9) x7 x8 x9 true) else (nodeset_Of.j1 k x4 (rd x7 x9) x7 x8 x9 (decide ((rd x7 x9) ≥ 10)))) else (none)) else (none)) else (some (x4, 0))
def nodeset_Of.j1 : Nat → Int → Int → List Int → Int → Int → Bool → Option (Int × Int)
 | 0, _, _, _, _, _, _ => none
 | k + 1, x4, x6, x7, x8, x9, x18 => if x18 = true then (some (0, 5)) else ((nodeset_Has.f x4 x6).bind fun t208 => (if t208 = true then (some (0, 6)) else (if 0 ≤ x6 then (nodeset_Of.l0 k (Go.bits .or .i64 x4 (shl .i64 1 x6)) x7 x8 (wrap64 (x9 + 1))) else (none))))
end
def nodeset_Of.f (k : Nat) (l0 : List Int) : Option (Int × Int) := nodeset_Of.l0 k 0 l0 (l0.length : Int) 0
set_option maxHeartbeats 8000000 in
set_option maxRecDepth 100000 in
theorem nodeset_Of.calls (k : Nat) (A0 : Option Addr) (c0 : Nat) (l0 : List Int) (r1 : Int) (r2 : Int) (w : World) (hr0 : Kd.C (Kd.int .i64) w A0 l0.length l0) (hc0 : l0.length ≤ c0) (h : nodeset_Of.f k l0 = some (r1, r2)) :
 Calls Try.prog 57 #[.slice A0 l0.length c0] w fun e w' => e = .returned (.tuple #[.int .i64 r1, .int .i64 r2]) ∧ Drawn0 w w' := by
 have HR0 := Aside0.mk hr0
 have HC0 := Aside0.mk hc0
 clear hr0 hc0
 have H : (nodeset_Of.l0 k 0 l0 (l0.length : Int) 0) = some (r1, r2) := h
 clear h
 have H' := Aside0.mk H
 clear H
 go_enter Try.func57, Try.ntmps57
 go_wp2
 go_loopg [4, 9] k (fun kq v4 v9 w' => ∃ (x4_1 : Int) (x9_1 : Int), v4 = .int .i64 x4_1 ∧ v9 = .int .i64 x9_1 ∧ Aside0 (nodeset_Of.l0 kq x4_1 l0 (l0.length : Int) x9_1 = some (r1, r2)) ∧ Aside0 (kq ≤ k) ∧ Drawn0 w w')
 case atStart => exact ⟨(0), (0), (by first | rfl | (simp; done) | (simp [*]; done)), (by first | rfl | (simp; done) | (simp [*]; done)), H', ⟨Nat.le_refl _⟩, by repeat (first | exact Drawn0.refl _ | apply Drawn0.step)⟩
 case round =>
  clear H'
  obtain ⟨x4_1, x9_1, rfl, rfl, HA, HK1, ⟨m1, rfl⟩⟩ := hrel
  cases gk with
  | zero => exact absurd HA.out (by simp [nodeset_Of.l0])
  | succ k1 =>
   have H := HA.out
   clear HA
   simp only [nodeset_Of.l0] at H
   by_cases c2 : x9_1 < (l0.length : Int)
   ·rw [if_pos c2] at H
    have c2b0 : decide (x9_1 < (l0.length : Int)) = true := decide_eq_true c2
    clear c2
    by_cases c3 : 0 ≤ x9_1
    ·rw [if_pos c3] at H
     have c3b0 : decide (0 ≤ x9_1) = true := decide_eq_true c3
     clear c3
     by_cases c4 : x9_1 < (l0.length : Int)
     ·rw [if_pos c4] at H
      have c4b0 : decide (x9_1 < (l0.length : Int)) = true := decide_eq_true c4
      clear c4
      have HC5 := Aside0.mk H
      clear H
      have p207 : 0 ≤ (x9_1 : Int) := of_decide_eq_true (by first | (with_reducible assumption) | assumption)
      have q207 : x9_1 < (l0.length : Int) := of_decide_eq_true (by first | (with_reducible assumption) | assumption)
      obtain ⟨ad207, e207, hx207_0⟩ := Kd.at_int HR0.out x9_1 p207 q207
      cases e207
      replace p207 := eq_true p207
      replace q207 := eq_true q207
      go_upto_region 5 with (fail)
      go_cut [18] (fun v18 wc => ∃ (kq : Nat) (x18_4 : Bool), v18 = .bool x18_4 ∧ Aside0 (nodeset_Of.j1 kq x4_1 (rd l0 x9_1) l0 (l0.length : Int) x9_1 x18_4 = some (r1, r2)) ∧ Aside0 (kq ≤ k1) ∧ Drawn0 w wc)
      case first =>
       have H := HC5.out
       clear HC5
       by_cases c6 : (rd l0 x9_1) < 0
       ·rw [if_pos c6] at H
        have c6b0 : decide ((rd l0 x9_1) < 0) = true := decide_eq_true c6
        clear c6
        (first | rw [c6b0] | (simp only [i64_w, i32_w]; rw [c6b0]) | skip)
        have H' := Aside0.mk H
        clear H
        go_wp2
        go_meet
        case rel => exact ⟨_, (true), (by first | rfl | (simp; done) | (simp [*]; done)), H', ⟨by have := HK1.out; first | omega | exact Nat.le_refl _⟩, by repeat (first | exact Drawn0.refl _ | apply Drawn0.step)⟩
       ·rw [if_neg c6] at H
        have c6b0 : decide ((rd l0 x9_1) < 0) = false := decide_eq_false c6
        clear c6
        (first | rw [c6b0] | (simp only [i64_w, i32_w]; rw [c6b0]) | skip)
        have H' := Aside0.mk H
        clear H
        go_wp2
        go_meet
        case rel => exact ⟨_, (decide ((rd l0 x9_1) ≥ 10)), (by first | rfl | (simp; done) | (simp [*]; done)), H', ⟨by have := HK1.out; first | omega | exact Nat.le_refl _⟩, by repeat (first | exact Drawn0.refl _ | apply Drawn0.step)⟩
      case rest =>
       clear HC5
       try clear c2
       try clear c2b0
       try clear p2
       try clear q2
       try clear hx2
       try clear c3
       try clear c3b0
       try clear c4
       try clear c4b0
       try clear c5
       try clear c6
       try clear c6b0
       try clear hx207_0
       try clear p207
       try clear q207
       obtain ⟨kq, x18_4, rfl, HA, HJ4, ⟨mc4, rfl⟩⟩ := hcut
       cases kq with
       | zero => exact absurd HA.out (by simp [nodeset_Of.j1])
       | succ kj4 =>
        have H := HA.out
        clear HA
        simp only [nodeset_Of.j1] at H
        by_cases c7 : x18_4 = true
        ·subst c7
         have H1 : (some (0, 5)) = some (r1, r2) := by rw [if_pos rfl] at H; exact H
         clear H
         have H := H1
         clear H1
         simp only [Option.some.injEq, Prod.mk.injEq] at H
         obtain ⟨rfl, rfl⟩ := H
         go_wp2
         go_ret2
         exact ⟨by first | rfl | (simp; done) | (simp [*]; done), by repeat (first | exact Drawn0.refl _ | apply Drawn0.step)⟩
        ·replace c7 := Bool.eq_false_iff.mpr c7
         subst c7
         have H1 : ((nodeset_Has.f x4_1 (rd l0 x9_1)).bind fun t208 => (if t208 = true then (some (0, 6)) else (if 0 ≤ (rd l0 x9_1) then (nodeset_Of.l0 kj4 (Go.bits .or .i64 x4_1 (shl .i64 1 (rd l0 x9_1))) l0 (l0.length : Int) (wrap64 (x9_1 + 1))) else (none)))) = some (r1, r2) := by rw [if_neg (show ¬ (false = true) by decide)] at H; exact H
         clear H
         have H := H1
         clear H1
         replace H := Option.bind_eq_some_iff.mp H
         obtain ⟨t208, A80, H⟩ := H
         replace H : (if t208 = true then (some (0, 6)) else (if 0 ≤ (rd l0 x9_1) then (nodeset_Of.l0 kj4 (Go.bits .or .i64 x4_1 (shl .i64 1 (rd l0 x9_1))) l0 (l0.length : Int) (wrap64 (x9_1 + 1))) else (none))) = some (r1, r2) := H
         have A8 := Aside0.mk A80
         clear A80
         by_cases c9 : t208 = true
         ·subst c9
          have H1 : (some (0, 6)) = some (r1, r2) := by rw [if_pos rfl] at H; exact H
          clear H
          have H := H1
          clear H1
          simp only [Option.some.injEq, Prod.mk.injEq] at H
          obtain ⟨rfl, rfl⟩ := H
          go_wp2_with (first | ((with_reducible refine gate_callee (f := 47) rfl ?_); refine goesA_ (some 21) rfl rfl Try.func47 rfl #[.int .i64 x4_1, .int .i64 (rd l0 x9_1)] rfl ?_; (with_reducible refine (nodeset_Has.calls x4_1 (rd l0 x9_1) true _ A8.out).mono ?_); rintro e w' ⟨rfl, ⟨nd, rfl⟩⟩; refine ⟨_, rfl, ?_⟩))
          go_ret2
          exact ⟨by first | rfl | (simp; done) | (simp [*]; done), by repeat (first | exact Drawn0.refl _ | apply Drawn0.step)⟩
         ·replace c9 := Bool.eq_false_iff.mpr c9
          subst c9
          have H1 : (if 0 ≤ (rd l0 x9_1) then (nodeset_Of.l0 kj4 (Go.bits .or .i64 x4_1 (shl .i64 1 (rd l0 x9_1))) l0 (l0.length : Int) (wrap64 (x9_1 + 1))) else (none)) = some (r1, r2) := by rw [if_neg (show ¬ (false = true) by decide)] at H; exact H
          clear H
          have H := H1
          clear H1
          by_cases c10 : 0 ≤ (rd l0 x9_1)
          ·rw [if_pos c10] at H
           have c10b0 := eq_true c10
           have c10b1 : decide (0 ≤ (rd l0 x9_1)) = true := decide_eq_true c10
           clear c10
           obtain ⟨ji11, hji11⟩ : ∃ j_ : Int, (shl .i64 1 (rd l0 x9_1)) = j_ := ⟨_, rfl⟩
           replace H : (nodeset_Of.l0 kj4 (Go.bits .or .i64 x4_1 (ji11)) l0 (l0.length : Int) (wrap64 (x9_1 + 1))) = some (r1, r2) := by first | (rw [hji11] at H; exact H) | (simp only [hji11] at H ⊢; exact H)
           (try rw [hji11] at A8)
           have hji11_ : (IntKind.i64.wrap (1 * 2 ^ min (rd l0 x9_1).toNat 64)) = ji11 := hji11
           have hji11z : (rd l0 x9_1) ≤ 64 → (IntKind.i64.wrap (1 * 2 ^ (rd l0 x9_1).toNat)) = ji11 := shl_small hji11
           have hji11u : (IntKind.i64.wrap (2 ^ min (rd l0 x9_1).toNat 64)) = ji11 := by have h_ := hji11_; rw [Int.one_mul] at h_; exact h_
           have hji11v : (rd l0 x9_1) ≤ 64 → (IntKind.i64.wrap (2 ^ (rd l0 x9_1).toNat)) = ji11 := fun hle_ => by have h_ := hji11z hle_; rw [Int.one_mul] at h_; exact h_
           have hji11y : (wrap64 (1 * 2 ^ min (rd l0 x9_1).toNat 64)) = ji11 := (i64_w _).symm.trans hji11_
           have hji11x : (rd l0 x9_1) ≤ 64 → (wrap64 (1 * 2 ^ (rd l0 x9_1).toNat)) = ji11 := fun h_ => (i64_w _).symm.trans (hji11z h_)
           have H' := Aside0.mk H
           clear H
           go_wp2_with (first | ((with_reducible refine gate_callee (f := 47) rfl ?_); refine goesA_ (some 21) rfl rfl Try.func47 rfl #[.int .i64 x4_1, .int .i64 (rd l0 x9_1)] rfl ?_; (with_reducible refine (nodeset_Has.calls x4_1 (rd l0 x9_1) false _ A8.out).mono ?_); rintro e w' ⟨rfl, ⟨nd, rfl⟩⟩; refine ⟨_, rfl, ?_⟩))
           go_roundg kj4
           case measure => have := HK1.out; have := HJ4.out; omega
           case rel => exact ⟨(Go.bits .or .i64 x4_1 (ji11)), (wrap64 (x9_1 + 1)), (by first | rfl | (simp; done) | (simp only [← hji11] <;> (first | rfl | simp)) | (simp [*]; done)), (by first | rfl | (simp; done) | (simp [*]; done)), H', ⟨by have := HK1.out; have := HJ4.out; omega⟩, by repeat (first | exact Drawn0.refl _ | apply Drawn0.step)⟩
          ·rw [if_neg c10] at H
           exact absurd H (by simp)
     ·rw [if_neg c4] at H
      exact absurd H (by simp)
    ·rw [if_neg c3] at H
     exact absurd H (by simp)
   ·rw [if_neg c2] at H
    have c2b0 : decide (x9_1 < (l0.length : Int)) = false := decide_eq_false c2
    clear c2
    simp only [Option.some.injEq, Prod.mk.injEq] at H
    obtain ⟨rfl, rfl⟩ := H
    go_wp2
    go_ret2
    exact ⟨by first | rfl | (simp; done) | (simp [*]; done), by repeat (first | exact Drawn0.refl _ | apply Drawn0.step)⟩
def threshold_node.f (a0 : Int) : Option (Bool) := if a0 ≥ 0 then (some (decide (a0 < 10))) else (some false)
set_option maxHeartbeats 8000000 in
set_option maxRecDepth 100000 in
theorem threshold_node.calls (a0 : Int) (r : Bool) (w : World) (h : threshold_node.f a0 = some r) :
 Calls Try.prog 56 #[.int .i64 a0] w fun e w' => e = .returned (.bool r) ∧ Drawn0 w w' := by
 have H : (if a0 ≥ 0 then (some (decide (a0 < 10))) else (some false)) = some r := h
 clear h
 by_cases c2 : a0 ≥ 0
 ·rw [if_pos c2] at H
  have c2b0 : decide (0 ≤ a0) = true := decide_eq_true c2
  clear c2
  obtain rfl := Option.some.inj H
  go_enter Try.func56, Try.ntmps56
  go_wp2
  go_ret
  exact ⟨by first | rfl | (simp; done) | (simp [*]; done), by repeat (first | exact Drawn0.refl _ | apply Drawn0.step)⟩
 ·rw [if_neg c2] at H
  have c2b0 : decide (0 ≤ a0) = false := decide_eq_false c2
  clear c2
  obtain rfl := Option.some.inj H
  go_enter Try.func56, Try.ntmps56
  go_wp2
  go_ret
  exact ⟨by first | rfl | (simp; done) | (simp [*]; done), by repeat (first | exact Drawn0.refl _ | apply Drawn0.step)⟩
end Go.Proofs.Ytfkpimjiaijmgaa.G
end
section
namespace Go.Proofs.YtfkpimjiaijmgaaV
open Go Go.RowKit Go.Sort Go.Lib Go.Proofs Go.Proofs.YtfkpimjiaijmgaaW.PrintWords
/-- A slice that is read and not empty: its address, and its cells. -/
theorem addr_of_C {w : World} {A : Option Addr} {n : Nat} {xs : List Int} (h : Kd.C (Kd.int .i64) w A n xs) (hn : 0 < n) :
 ∃ b off, A = some ⟨b, off, none⟩ ∧ b < w.heap.size ∧ ∀ j, j < n → w.cell? ⟨b, off + j, none⟩ = some (.int .i64 (xs.getD j 0)) := by
 obtain ⟨_, _, hc0⟩ := Kd.reads_of_C (d := (0 : Int)) h
 obtain ⟨ad, rfl, hc⟩ := hc0 hn
 clear hc0
 obtain ⟨b, off, spot⟩ := ad
 have h0 := hc 0 hn
 have e0 : (⟨b, off, spot⟩ : Addr).add 0 = ⟨b, off, spot⟩ := by simp [Addr.add]
 rw [e0] at h0
 have hs : spot = none := by
  unfold World.cell? at h0
  cases spot with
  | none => rfl
  | some z => exfalso; revert h0; dsimp only; split <;> simp
 subst hs
 refine ⟨b, off, rfl, World.block_lt_of_cell? w _ h0, fun j hj => ?_⟩
 have := hc j hj
 rw [add_lit' b off j] at this
 exact this
where
 add_lit' (b off j : Nat) : (⟨b, off, none⟩ : Addr).add j = ⟨b, off + j, none⟩ := by
  unfold Addr.add; split <;> simp_all
section
variable {α : Type} [Inhabited α] {enc : α → Value}
theorem holds_of_block {w : World} {g : Nat} {cur : Array Value} {e : TypeId} {ss : List α} (hb : w.heap[g]? = some (.cells cur e (0, 0))) (ht : cur.toList.take ss.length = ss.map enc) : Holds enc w g 0 ss.toArray := by
 intro j hj
 have hj' : j < ss.length := by simpa using hj
 refine ⟨?_, by simp [World.frozen?, hb]⟩
 have h1 : (cur.toList.take ss.length)[j]? = (ss.map enc)[j]? := by rw [ht]
 rw [List.getElem?_take_of_lt hj'] at h1
 simp only [World.cell?, hb, Nat.zero_add]
 simp only [Option.isSome_none, Bool.false_eq_true, if_false]
 rw [← Array.getElem?_toList, h1]
 simp [hj']
theorem heap_put {w : World} {g n : Nat} {os : Array Obj} {cur : Array Value} {e : TypeId} {fr : Nat × Nat} (d : Array α) (hb : w.heap[g]? = some (.cells cur e fr)) :
 (grow (putRow enc (Sort.ahead w n) g 0 d) os).heap[g]? = some (.cells (putCells enc 0 d cur) e fr) := by
 have hg : g < w.heap.size := (Array.getElem?_eq_some_iff.1 hb).1
 rw [heap_grow_old _ _ (by simpa using hg)]
 simp [putRow, mapBlock, Sort.ahead, Array.getElem?_modify, hb, onCells]
theorem grownBy_put {w : World} {g n : Nat} {os : Array Obj} (d : Array α) : w.grownBy (grow (putRow enc (Sort.ahead w n) g 0 d) os) (some g) := by
 refine ⟨rfl, rfl, rfl, by simp, fun k hk hne => ?_⟩
 rw [heap_grow_old _ _ (by simpa using hk)]
 have : g ≠ k := fun e => hne (by rw [e])
 simp [putRow, mapBlock, Sort.ahead, Array.getElem?_modify, this]
theorem take_putCells (cur : Array Value) (ts : List α) (h : ts.length ≤ cur.size) : (putCells enc 0 ts.toArray cur).toList.take ts.length = ts.map enc := by
 apply List.ext_getElem?
 intro j
 by_cases hj : j < ts.length
 ·rw [List.getElem?_take_of_lt hj, Array.getElem?_toList]
  simp [putCells, hj, show j < cur.size by omega]
 ·rw [List.getElem?_take_eq_none (by omega), List.getElem?_eq_none (by simp; omega)]
/-- Behind a turn of its cells a row holds what was put there; it may be cut. -/
theorem own_put {w : World} {base g cap n m q : Nat} {e : TypeId} {os : Array Obj} {xs : List Value} (ts : List α) (h : w.ownsRow base e 1 (.slice (some ⟨g, 0, none⟩) n cap) n xs) (ht : ts.length ≤ n) (hm : m ≤ ts.length) :
 (grow (putRow enc (Sort.ahead w q) g 0 ts.toArray) os).ownsRow base e 1 (.slice (some ⟨g, 0, none⟩) m cap) m ((ts.take m).map enc) := by
 rcases h.2 with ⟨h0, _⟩ | ⟨g', cap', cur, hv, hg, hb, hn, hcap, hcs, _⟩
 ·cases h0
 cases hv
 refine ⟨by simp; omega, .inr ⟨g, cap, _, rfl, hg, heap_put _ hb, by omega, hcap, by simp [putCells, hcs], ?_⟩⟩
 have := take_putCells (enc := enc) cur ts (by omega)
 rw [Nat.mul_one, List.map_take, ← this, List.take_take, Nat.min_eq_left hm]
/-- The cells of an own row, as the sort asks. -/
theorem holds_of_own {w : World} {base g cap n : Nat} {e : TypeId} {xs : List α} (h : w.ownsRow base e 1 (.slice (some ⟨g, 0, none⟩) n cap) n (xs.map enc)) :
 Holds enc w g 0 xs.toArray ∧ g < w.heap.size ∧ base ≤ g ∧ xs.length = n ∧ n ≤ cap := by
 have hl : xs.length = n := by have := h.1; simpa using this
 rcases h.2 with ⟨h0, _⟩ | ⟨g', cap', cur, hv, hg, hb, hn, hcap, hcs, ht⟩
 ·cases h0
 cases hv
 refine ⟨holds_of_block hb (by rw [hl]; rwa [Nat.mul_one] at ht), (Array.getElem?_eq_some_iff.1 hb).1, hg, hl, hn⟩
end
/-- A slice of two, just made. -/
theorem C_pair (W : World) (x y : Int) (T : TypeId) : Kd.C (Kd.int .i64) (W.alloc (.cells #[.int .i64 x, .int .i64 y] T)) (some ⟨W.heap.size, 0, none⟩) [x, y].length [x, y] :=
 Kd.C_of_reads (d := (0 : Int)) ⟨rfl, by simp, fun _ => ⟨_, rfl, fun j hj => by
  have hj' : j = 0 ∨ j = 1 := by simp at hj; omega
  have hb : (W.alloc (.cells #[.int .i64 x, .int .i64 y] T)).heap[W.heap.size]? = some (.cells #[.int .i64 x, .int .i64 y] T (0, 0)) := heap_alloc_new W _
  rw [YtfkpimjiaijmgaaW.PrintWords.add_plain]
  rcases hj' with rfl | rfl
  ·exact (blk_cell hb 0).trans rfl
  ·exact (blk_cell hb 1).trans rfl⟩⟩
/-- A literal of whole numbers, just made. -/
theorem C_lit (W : World) (xs : List Int) (cs : Array Value) (T : TypeId) (h : cs = (xs.map (Value.int .i64)).toArray) (hm : xs.length ≤ 9223372036854775807) : Kd.C (Kd.int .i64) (W.alloc (.cells cs T)) (some ⟨W.heap.size, 0, none⟩) xs.length xs :=
 Kd.C_of_reads (d := (0 : Int)) ⟨rfl, hm, fun _ => ⟨_, rfl, fun j hj => by
  have hb : (W.alloc (.cells cs T)).heap[W.heap.size]? = some (.cells cs T (0, 0)) := heap_alloc_new W _
  rw [YtfkpimjiaijmgaaW.PrintWords.add_plain]
  refine (blk_cell hb j).trans ?_
  subst h
  simp [List.getD, hj]⟩⟩
theorem grow_drewN_alloc (w : World) (n m : Nat) (o : Obj) : ((w.drewN n).alloc o).drewN m = grow (w.drewN (n + m)) #[o] := by
 rw [alloc_eq_grow]
 show grow ((w.drewN n).drewN m) #[o] = _
 rw [World.drewN_drewN]
end Go.Proofs.YtfkpimjiaijmgaaV
end
