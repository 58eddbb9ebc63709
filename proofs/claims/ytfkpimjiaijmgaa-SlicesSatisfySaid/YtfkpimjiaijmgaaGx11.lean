-- PRINTED by print.py (a twelfth state) out of the translation. Not trusted: Lean checks it.
import Derived.Test.YtfkpimjiaijmgaaGx0
import Derived.Test.YtfkpimjiaijmgaaGx8
import Derived.Test.YtfkpimjiaijmgaaGx10
import Derived.Test.YtfkpimjiaijmgaaVKit
import Derived.Test.YtfkpimjiaijmgaaVBits
import Derived.Test.YtfkpimjiaijmgaaVOrder
import Derived.Test.YtfkpimjiaijmgaaSh
import Derived.Maps.AppendAt
import Derived.RangeFuncBox
import Derived.RangeFuncLeaves
import Derived.RangeFuncNested
import Derived.RangeFuncBound
import Derived.RangeFuncCalls
import Derived.Shelf.Abstract
import Derived.Shelf.RegionOpen
import Derived.OwnWalkIn
import Derived.TacticsInMore
import Derived.LoopNIn
import Derived.LoopIn
namespace Go.Proofs.Ytfkpimjiaijmgaa.G
open Go.RowKit Go.Proofs.YtfkpimjiaijmgaaW.PrintWords Go.Proofs.YtfkpimjiaijmgaaW.PrintLast Go.Proofs.YtfkpimjiaijmgaaW.PrintMore
attribute [local go_sem] max2_int min2_int max_two min_two max_three min_three max_four min_four   -- for this text's walks alone
set_option linter.unusedVariables false
set_option linter.unusedSimpArgs false

-- GIVEN BY HAND: slices_least.lean
section
set_option maxRecDepth 100000
open Go.Sort Go.Lib Go.Shelf YtfkpimjiaijmgaaV
attribute [local go_sem] Oper.semAt_some

def ofSets (p : Fin 1024 → Bool) (l : List (Fin 1024)) : List Int := (l.filter p).map fun x => (x.1 : Int)
theorem ofSets_hit {p : Fin 1024 → Bool} (pre : List (Fin 1024)) {x : Fin 1024} (h : p x = true) : ofSets p (pre ++ [x]) = ofSets p pre ++ [(x.1 : Int)] := by simp [ofSets, h]
theorem ofSets_miss {p : Fin 1024 → Bool} (pre : List (Fin 1024)) {x : Fin 1024} (h : p x = false) : ofSets p (pre ++ [x]) = ofSets p pre := by simp [ofSets, h]
theorem ofSets_len (p : Fin 1024 → Bool) (l : List (Fin 1024)) : (ofSets p l).length ≤ l.length := by simp [ofSets]; exact List.length_filter_le _ _
theorem allF_len : allF.length ≤ 20000 := by decide +kernel
/-- The boxes, the row and the rest behind what lays blocks alone. -/
theorem boxed_below {W W' : World} {B : Nat} {t : TypeId} {v : Value} (h : Boxed W B t v) (hb : Below W.heap.size W W') : Boxed W' B t v := (hb.block B h.lt).trans h

theorem hb_trans {w W W' : World} (h : Below w.heap.size w W) (hb : Below W.heap.size W W') : Below w.heap.size w W' := h.trans (hb.mono h.size)
theorem keepsFrom_below {B : Nat} {W W' : World} (hb : Below W.heap.size W W') : KeepsFrom B W W' := ⟨hb.size, fun k _ _ hk _ => (hb.block k (Array.getElem?_eq_some_iff.1 hk).1).trans hk⟩

/-- Another box behind 'out = append(out, ..)'. -/
theorem appended_other {W w1 : World} {n₀ B B' : Nat} {t e : TypeId} {size : Nat} {u v v' : Value} {k : Nat} {xs : List Value} {tmp : Obj}
    (hF : Boxed W B' t u) (hte : t ≠ e) (hne : B' ≠ B) (hrow : W.ownsRow n₀ e size v k xs) (hgrow : (W.alloc tmp).grownBy w1 v.ownBlock) : Boxed (w1.setCell ⟨B, 0, none⟩ v') B' t u :=
  ((hF.alloc tmp).kept hgrow (hF.not_row hte hrow)).other hne v'

set_option maxHeartbeats 2000000 in
theorem least_calls (g : Nat) (lb : Array Value) (p : Fin 1024 → Bool) (w : World) (eg : ∀ args w, (callFunc g args).run Try.prog w = .ok (.enter g args) w)
    (hP : ∀ (W : World) (s : Fin 1024), Below w.heap.size w W → Calls Try.prog g (#[.int .i64 (s.1 : Int)] ++ lb) W fun e w' => e = .returned (.bool (p s)) ∧ Below W.heap.size W w') :
    Calls Try.prog 23 #[.func (.func g) #[] lb] w fun e w' => ∃ v, e = .returned v ∧ Kd.R (Kd.int .i64) 3 w' w.heap.size (fun _ => True) v (leastL (ofSets p allF)) ∧ Below w.heap.size w w' := by
  have HP := Aside0.mk hP
  clear hP
  obtain ⟨i0, hi, hz0, hz1, hz2⟩ := info_parts info3
  refine (callsIn_wide (n := 5)).1 ?_
  refine callsIn_of_wp_marks Try.func23 rfl trivial ?_ rfl
  simp only [Try.ntmps23, List.size_toArray, List.length_cons, List.length_nil, Nat.reduceAdd, Nat.reduceSub, Array.replicate_succ, Array.replicate_zero, List.push_toArray, List.append_toArray, List.nil_append, List.cons_append]
  gi_wp2
  have bF := Boxed.new w 47 (.func (.func g) #[] lb)
  have bO := Boxed.new (w.alloc (.cells #[.func (.func g) #[] lb] 47)) 22 (.slice none 0 0)
  rw [World.size_alloc] at bO
  have hB0 : Below w.heap.size w ((w.alloc (.cells #[.func (.func g) #[] lb] 47)).alloc (.cells #[.slice none 0 0] 22)) := ((Below.refl _ w).alloc (Nat.le_refl _) _).alloc (by simp) _
  refine wpIn_rangeFunc_ownG rfl (by omega) (gf := 44) (lb := #[]) rfl trivial (enters_of Try.func44 (by kernel_rfl) rfl)
    (inOrder_stops _ w.heap.size (by omega) _) belowK_t (belowK_b (by simp; omega)) (Below.refl _ _) (fun _ => rfl)
    (fun pre W => (∃ v, Boxed W (w.heap.size + 1) 22 v ∧ W.ownsRow w.heap.size 3 1 v (ofSets p pre).length ((ofSets p pre).map (Value.int .i64)) ∧ True) ∧ (Below w.heap.size w W ∧ Boxed W w.heap.size 47 (.func (.func g) #[] lb)))
    (fun _ _ _ => False)
    (OwnFrom.and (Own.from (holdsRow_own w.heap.size (w.heap.size + 1) 22 3 1 (fun pre => (ofSets p pre).length) (fun pre => (ofSets p pre).map (Value.int .i64)) (fun _ _ => True)) _) (OwnFrom.and (ownFrom_below (Nat.le_refl _) (by simp; omega)) (Own.from (boxed_own _ _ _) _)))
    (fun _ _ _ _ _ hs _ _ => hs)
    ⟨⟨_, bO, World.ownsRow_nil _ _ _ _, trivial⟩, hB0, bF.alloc _⟩
    (fun x => { tmps := #[.func (.func g) #[] lb, .pointer (some ⟨w.heap.size, 0, none⟩), .slice none 0 0, .pointer (some ⟨w.heap.size + 1, 0, none⟩), .int .i64 (x.1 : Int), .int .i64 (x.1 : Int), undef, undef, undef, undef, undef, undef, undef, undef, undef], defers := [] }) ?assign ?body ?done ?stop
  case assign =>
    intro l x W K hK
    gi_wp2
    exact hK
  case body =>
    rintro l pre x W ⟨⟨v, hv, hrow, _⟩, hB, hF⟩ hlt
    have hcF := hF.cell
    have HC := Aside0.mk (HP.out W x hB)
    have HW := Aside0.mk (⟨hv, hrow, hB, hF⟩ : Boxed W (w.heap.size + 1) 22 v ∧ W.ownsRow w.heap.size 3 1 v (ofSets p pre).length ((ofSets p pre).map (Value.int .i64)) ∧ Below w.heap.size w W ∧ Boxed W w.heap.size 47 (.func (.func g) #[] lb))
    have hpl := ofSets_len p pre
    have hal := allF_len
    clear hv hrow hB hF
    by_cases hp : p x = true
    · have HL := Aside0.mk (ofSets_hit pre hp)
      rw [hp] at HC
      clear hp
      gi_wp2_with (first
        | (refine ⟨trivial, ?_⟩; refine (CallsIn.inRound l (callsIn_wide.2 HC.out)).mono ?_; rintro e W2 ⟨rfl, hb2⟩; have HB2 := Aside0.mk hb2; clear hb2; have hv := boxed_below HW.out.1 HB2.out; have hrow := pw_own_below HW.out.2.1 HB2.out; have hB2 := hb_trans HW.out.2.2.1 HB2.out; have hc := hv.cell; clear hcF)
        | (gi_at_builtin; refine wpListIn_append_own _ rfl _ _ 22 rfl w.heap.size 3 i0 (.int .i64 0) 1 8 Try.underlying22 hi hz0 hz1 hz2 rfl (by decide) _ _ _ rfl (hrow.alloc _) ⟨W2.heap.size, 0, none⟩ 1 1 [.int .i64 (x.1 : Int)] rfl rfl (cell_one_new _ _ _) (by simp [Value.oneCell']) (by unfold maxLen; omega) (by omega) (by have := hB2.size; simp; omega) ?_; intro v' w1 hown' hgrow _; obtain ⟨g', cap', rfl⟩ := ownsRow_succ hown'; obtain ⟨hv1, hv2, hr2, hk2, hb2⟩ := hv.appended (by decide) hrow hB2.size (by omega) hown' hgrow; have hF2 := appended_other (B := w.heap.size + 1) (boxed_below HW.out.2.2.2 HB2.out) (by decide) (Nat.ne_of_lt (Nat.lt_succ_self _)) hrow hgrow (v' := .slice (some ⟨g', 0, none⟩) ((ofSets p pre).length + 1) cap'); have hc1 := hv1.cell; have hf1 := hv1.frozen))
      refine ⟨(keepsFrom_below HB2.out).trans (hk2.from _), (HB2.out.mono HW.out.2.2.1.size).trans hb2, ⟨_, hv2, ?_, trivial⟩, hB2.trans hb2, hF2⟩
      rw [HL.out]
      simpa using hr2
    · have hp' : p x = false := by simpa using hp
      have HL := Aside0.mk (ofSets_miss pre hp')
      rw [hp'] at HC
      clear hp hp'
      gi_wp2_with (refine ⟨trivial, ?_⟩; refine (CallsIn.inRound l (callsIn_wide.2 HC.out)).mono ?_; rintro e W2 ⟨rfl, hb2⟩; have HB2 := Aside0.mk hb2; clear hb2 hcF)
      obtain ⟨hv, hrow, hB, hF⟩ := HW.out
      have hb2 := HB2.out
      refine ⟨keepsFrom_below hb2, hb2.mono hB.size, ⟨⟨v, boxed_below hv hb2, ?_, trivial⟩, hb_trans hB hb2, boxed_below hF hb2⟩⟩
      rw [HL.out]
      exact pw_own_below hrow hb2
  case done =>
    rintro D ys W hD rfl ⟨⟨v, hv, hrow, _⟩, hB, hF⟩ hK
    have hR : Kd.R (Kd.int .i64) 3 W w.heap.size (fun _ => True) v (ofSets p allF) := Kd.R_of_own hrow (fun _ _ => trivial)
    obtain ⟨A, c, rfl⟩ := Kd.R_slice hR
    have hc := hv.cell
    have HC := Aside0.mk (Kd.R_reads' hR).2.2
    have HR := Aside0.mk hR
    have hl := ofSets_len p allF
    have hal := allF_len
    have HW := Aside0.mk (⟨hB, hK⟩ : Below w.heap.size w W ∧ _)
    have HLe : Aside0 (nodeset_Least.f (ofSets p allF) = some (leastL (ofSets p allF))) := ⟨by unfold nodeset_Least.f; rw [if_pos (by omega)]⟩
    clear hrow hB hF hR hv hK
    gi_wp2_with (refine ⟨trivial, ?_⟩; gi_at_call 45; refine (callsIn_wide.2 (nodeset_Least.calls A c (ofSets p allF) _ _ HC.out (Kd.R_reads' HR.out).2.1 HLe.out)).mono ?_; rintro e W2 ⟨v2, rfl, hr2, hb2⟩; have HR2 := Aside0.mk hr2; have HB2 := Aside0.mk hb2; clear hr2 hb2)
    have hlt := (Array.getElem?_eq_some_iff.1 HW.out.2).1
    have hK2 := (HB2.out.block D hlt).trans HW.out.2
    refine ⟨by simp, .inl ⟨_, _, rfl, run_takeDeferred hK2, ?_⟩⟩
    have hB := hb_trans HW.out.1 HB2.out
    have ho := Kd.own_of_R (Kd.R_lower HR2.out HW.out.1.size)
    exact ⟨_, results_tmp rfl _ _ _, v2, rfl, Kd.R_of_own (ownsRow_putObj ho _ hK2 rfl) (fun _ _ => trivial), hB.trans (belowK_b (w := w) (Nat.le_refl _) W2 D _ _ (by simp at hD; omega) hK2 rfl rfl)⟩
  case stop =>
    rintro D c pre W _ _ h _
    exact h.elim
end

end Go.Proofs.Ytfkpimjiaijmgaa.G
