-- PRINTED by print.py (a twelfth state) out of the translation. Not trusted: Lean checks it.
import Derived.Test.YtfkpimjiaijmgaaGx0
import Derived.Test.YtfkpimjiaijmgaaGx7
import Derived.Test.YtfkpimjiaijmgaaGx11
import Derived.Test.YtfkpimjiaijmgaaGx12
import Derived.Test.YtfkpimjiaijmgaaVKit
import Derived.Test.YtfkpimjiaijmgaaVBits
import Derived.Test.YtfkpimjiaijmgaaVOrder
import Derived.RangeFuncBox
namespace Go.Proofs.Ytfkpimjiaijmgaa.G
open Go.RowKit Go.Proofs.YtfkpimjiaijmgaaW.PrintWords Go.Proofs.YtfkpimjiaijmgaaW.PrintLast Go.Proofs.YtfkpimjiaijmgaaW.PrintMore
attribute [local go_sem] max2_int min2_int max_two min_two max_three min_three max_four min_four   -- for this text's walks alone
set_option linter.unusedVariables false
set_option linter.unusedSimpArgs false

-- GIVEN BY HAND: slices_Slices.lean
section
set_option maxRecDepth 100000
open Go.Sort Go.Lib Go.Shelf YtfkpimjiaijmgaaV
/-- The predicate that Slices hands on: the trust lies in a box. -/
theorem slices1_calls (k : Nat) (a : Int) (A1 : Option Addr) (c1 : Nat) (l1 : List Int) (A2 : Option Addr) (c2 : Nat) (l2 : List S27) (B : Nat) (s : Int) (b : Bool) (W : World)
    (hbox : W.heap[B]? = some (.cells #[.int .i64 a, .slice A1 l1.length c1, .slice A2 l2.length c2] 27 (0, 0)))
    (h1 : Kd.C (Kd.int .i64) W A1 l1.length l1) (hc1 : l1.length ≤ c1) (h2 : Kd.C k27 W A2 l2.length l2) (hc2 : l2.length ≤ c2) (h : threshold_Satisfied.f k a l1 l2 s = some b) :
    Calls Try.prog 24 #[.int .i64 s, .pointer (some ⟨B, 0, none⟩)] W fun e w' => e = .returned (.bool b) ∧ Below W.heap.size W w' := by
  have H1 := Aside0.mk h1
  have H2 := Aside0.mk h2
  have H := Aside0.mk h
  have x0 : W.cell? ⟨B, 0, none⟩ = some (.int .i64 a) := (blk_cell hbox 0).trans rfl
  have x1 : W.cell? ⟨B, 1, none⟩ = some (.slice A1 l1.length c1) := (blk_cell hbox 1).trans rfl
  have x2 : W.cell? ⟨B, 2, none⟩ = some (.slice A2 l2.length c2) := (blk_cell hbox 2).trans rfl
  clear h1 h2 h hbox
  go_enter Try.func24, Try.ntmps24
  go_wp2_with (first | (go_at_call 25; (refine (threshold_Satisfied.calls k a A1 c1 l1 A2 c2 l2 s b _ H1.out hc1 H2.out hc2 H.out).mono ?_); rintro e w1 ⟨rfl, hb⟩; have HB := Aside0.mk hb; clear hb))
  go_ret
  exact ⟨rfl, HB.out⟩
theorem sl_pred {k : Nat} {a : Int} {A1 : Option Addr} {c1 : Nat} {l1 : List Int} {A2 : Option Addr} {c2 : Nat} {l2 : List S27} {w w0 w1 : World} (HA : Aside0 (∀ x ∈ allF, ∃ b, threshold_Satisfied.f k a l1 l2 (x.1 : Int) = some b))
    (HBX : Aside0 (w0.heap[w.heap.size]? = some (.cells #[.int .i64 a, .slice A1 l1.length c1, .slice A2 l2.length c2] 27 (0, 0)))) (HB0 : Aside0 (Below w.heap.size w w0)) (HB1 : Aside0 (Below w0.heap.size w0 w1))
    (H1 : Aside0 (Kd.C (Kd.int .i64) w A1 l1.length l1)) (H2 : Aside0 (Kd.C k27 w A2 l2.length l2)) (hc1 : l1.length ≤ c1) (hc2 : l2.length ≤ c2) :
    ∀ (W : World) (s : Fin 1024), Below w1.heap.size w1 W → Calls Try.prog 24 (#[.int .i64 (s.1 : Int)] ++ #[.pointer (some ⟨w.heap.size, 0, none⟩)]) W fun e w' => e = .returned (.bool ((threshold_Satisfied.f k a l1 l2 (s.1 : Int)).getD false)) ∧ Below W.heap.size W w' := by
  intro W s hW
  obtain ⟨b, hb⟩ := HA.out s (mem_allF s)
  have h01 : Below w0.heap.size w0 W := HB1.out.trans (hW.mono HB1.out.size)
  have hw : Below w.heap.size w W := HB0.out.trans (h01.mono HB0.out.size)
  have hbox := (h01.block w.heap.size (Array.getElem?_eq_some_iff.1 HBX.out).1).trans HBX.out
  rw [hb]
  exact slices1_calls k a A1 c1 l1 A2 c2 l2 w.heap.size s.1 b W hbox (Kd.C_below H1.out hw) hc1 (Kd.C_below H2.out hw) hc2 hb
end
def slices_Slices.f (k : Nat) (a0_0 : Int) (l0_1 : List Int) (l0_2 : List S27) : Option (List Int × Int) := (threshold_Valid.f k a0_0 l0_1 l0_2).bind fun e => if e = 0 then (YtfkpimjiaijmgaaV.filterO (fun s : Fin 1024 => threshold_Satisfied.f k a0_0 l0_1 l0_2 (s.1 : Int)) YtfkpimjiaijmgaaV.allF).bind fun l => some (YtfkpimjiaijmgaaV.leastL (l.map fun x => (x.1 : Int)), 0) else some ([], e)
theorem slices_Slices.mono (a0_0 : Int) (l0_1 : List Int) (l0_2 : List S27) (k : Nat) : LeO (slices_Slices.f k a0_0 l0_1 l0_2) (slices_Slices.f (k + 1) a0_0 l0_1 l0_2) := by
  unfold slices_Slices.f
  refine LeO.bind (threshold_Valid.mono _ _ _ _) (fun e => ?_)
  refine LeO.ite ?_ (LeO.refl _)
  refine LeO.bind ?_ (fun _ => LeO.refl _)
  exact fun r hr => YtfkpimjiaijmgaaV.filterO_pos (fun s b h => threshold_Satisfied.mono a0_0 l0_1 l0_2 (s.1 : Int) k b h) hr
set_option maxHeartbeats 1000000 in
theorem slices_Slices.calls (k : Nat) (a0_0 : Int) (A0_1 : Option Addr) (c0_1 : Nat) (l0_1 : List Int) (A0_2 : Option Addr) (c0_2 : Nat) (l0_2 : List (S27)) (r1 : List Int) (r2 : Int) (w : World) (hr0_1 : Kd.C (Kd.int .i64) w A0_1 l0_1.length l0_1) (hc0_1 : l0_1.length ≤ c0_1) (hr0_2 : Kd.C k27 w A0_2 l0_2.length l0_2) (hc0_2 : l0_2.length ≤ c0_2) (h : slices_Slices.f k a0_0 l0_1 l0_2 = some (r1, r2)) :
    Calls Try.prog 9 #[.agg #[.int .i64 a0_0, .slice A0_1 l0_1.length c0_1, .slice A0_2 l0_2.length c0_2]] w fun e w' => ∃ v0_ : Value, e = .returned (.tuple #[v0_, .int .i64 r2]) ∧ Kd.R (Kd.int .i64) 3 w' w.heap.size (fun _ => True) v0_ r1 ∧ Below w.heap.size w w' := by
  unfold slices_Slices.f at h
  replace h := Option.bind_eq_some_iff.1 h
  obtain ⟨e, hv, h⟩ := h
  have HV := Aside0.mk hv
  have H1 := Aside0.mk hr0_1
  have H2 := Aside0.mk hr0_2
  clear hv hr0_1 hr0_2
  have hbx := heap_alloc_new w (.cells #[.int .i64 a0_0, .slice A0_1 l0_1.length c0_1, .slice A0_2 l0_2.length c0_2] 27)
  have HBX := Aside0.mk hbx
  have HB0 := Aside0.mk (below_alloc (Below.refl w.heap.size w) (.cells #[.int .i64 a0_0, .slice A0_1 l0_1.length c0_1, .slice A0_2 l0_2.length c0_2] 27))
  clear hbx
  by_cases he : e = 0
  · rw [if_pos he] at h
    subst he
    replace h := Option.bind_eq_some_iff.1 h
    obtain ⟨l, hl, h⟩ := h
    obtain ⟨hall, hlf⟩ := YtfkpimjiaijmgaaV.filterO_some hl
    simp only [Option.some.injEq, Prod.mk.injEq] at h
    obtain ⟨rfl, rfl⟩ := h
    have HL := Aside0.mk (show l.map (fun x => (x.1 : Int)) = ofSets (fun s => (threshold_Satisfied.f k a0_0 l0_1 l0_2 (s.1 : Int)).getD false) YtfkpimjiaijmgaaV.allF by rw [hlf]; rfl)
    have HA := Aside0.mk hall
    clear hl hall hlf
    go_enter Try.func9, Try.ntmps9
    go_wp2_with (first
      | (go_at_call 22; (refine (threshold_Valid.calls k a0_0 A0_1 c0_1 l0_1 A0_2 c0_2 l0_2 0 _ (Kd.C_alloc H1.out _) hc0_1 (Kd.C_alloc H2.out _) hc0_2 HV.out).mono ?_); rintro e w1 ⟨rfl, hb⟩; have HB1 := Aside0.mk hb; clear hb)
      | (go_at_call 23; (refine (least_calls 24 #[.pointer (some ⟨w.heap.size, 0, none⟩)] (fun s => (threshold_Satisfied.f k a0_0 l0_1 l0_2 (s.1 : Int)).getD false) _ (enters_of Try.func24 (by kernel_rfl) rfl) ?hP).mono ?_); (case hP => exact sl_pred HA HBX HB0 HB1 H1 H2 hc0_1 hc0_2); rintro e w2 ⟨v, rfl, hr, hb⟩; have HR := Aside0.mk hr; have HB2 := Aside0.mk hb; clear hr hb))
    go_ret2
    refine ⟨_, rfl, ?_, HB0.out.trans ((HB1.out.trans (HB2.out.mono HB1.out.size)).mono HB0.out.size)⟩
    rw [HL.out]
    exact Kd.R_lower HR.out (Nat.le_trans HB0.out.size HB1.out.size)
  · rw [if_neg he] at h
    simp only [Option.some.injEq, Prod.mk.injEq] at h
    obtain ⟨rfl, rfl⟩ := h
    have he1 : (e == 0) = false := by simpa using he
    have he2 : (e != 0) = true := by simpa using he
    clear he
    go_enter Try.func9, Try.ntmps9
    go_wp2_with (first
      | (go_at_call 22; (refine (threshold_Valid.calls k a0_0 A0_1 c0_1 l0_1 A0_2 c0_2 l0_2 e _ (Kd.C_alloc H1.out _) hc0_1 (Kd.C_alloc H2.out _) hc0_2 HV.out).mono ?_); rintro e w1 ⟨rfl, hb⟩; have HB1 := Aside0.mk hb; clear hb))
    go_ret2
    exact ⟨_, rfl, Kd.R_nil _ _ _ _ _, HB0.out.trans (HB1.out.mono HB0.out.size)⟩

end Go.Proofs.Ytfkpimjiaijmgaa.G
