-- PRINTED by print.py (a twelfth state) out of the translation. Not trusted: Lean checks it.
import Derived.Test.YtfkpimjiaijmgaaGx0
import Derived.Test.YtfkpimjiaijmgaaGx1
import Derived.Test.YtfkpimjiaijmgaaGx3
import Derived.Test.YtfkpimjiaijmgaaGx4
import Derived.Test.YtfkpimjiaijmgaaGx13
import Derived.Test.YtfkpimjiaijmgaaGx14
import Derived.Test.YtfkpimjiaijmgaaGx17
namespace Go.Proofs.Ytfkpimjiaijmgaa.G
open Go.RowKit Go.Proofs.YtfkpimjiaijmgaaW.PrintWords Go.Proofs.YtfkpimjiaijmgaaW.PrintLast Go.Proofs.YtfkpimjiaijmgaaW.PrintMore
attribute [local go_sem] max2_int min2_int max_two min_two max_three min_three max_four min_four   -- for this text's walks alone
set_option linter.unusedVariables false
set_option linter.unusedSimpArgs false

/-! ### trustquorumlaw05_SlicesSatisfy: function 3 -/
mutual
def trustquorumlaw05_SlicesSatisfy.j0 : Nat → List Int → Bool → List Int → Int → Int → List Int → List (S27) → Option (Bool)
  | 0, _, _, _, _, _, _, _ => none
  | k + 1, x5, x30, x265000, x265001, x276000, x276001, x276002 => if x30 = true then (some false) else (trustquorumlaw05_SlicesSatisfy.l0 k x5 0 x265000 x265001 x276000 x276001 x276002)
def trustquorumlaw05_SlicesSatisfy.l0 : Nat → List Int → Int → List Int → Int → Int → List Int → List (S27) → Option (Bool)
  | 0, _, _, _, _, _, _, _ => none
  | k + 1, x5, x7, x265000, x265001, x276000, x276001, x276002 => if x7 < 40 then ((trustquorummake_Tape_N.f x265000 x265001 1024).bind fun bt281 => (if x7 < 20 then ((trustquorummake_Tape_N.f x265000 bt281.2 256).bind fun bt283 => (trustquorumlaw05_SlicesSatisfy.j2 k x5 x7 bt283.1 x265000 bt283.2 x276000 x276001 x276002)) else (trustquorumlaw05_SlicesSatisfy.j2 k x5 x7 bt281.1 x265000 bt281.2 x276000 x276001 x276002))) else ((trustquorumlaw05_awake.f).bind fun t280 => (some t280))
def trustquorumlaw05_SlicesSatisfy.j2 : Nat → List Int → Int → Int → List Int → Int → Int → List Int → List (S27) → Option (Bool)
  | 0, _, _, _, _, _, _, _, _ => none
  | k + 1, x5, x7, x8, x265000, x265001, x276000, x276001, x276002 => trustquorumlaw05_SlicesSatisfy.l1 k x5 x7 x8 false true x5 (x5.length : Int) 0 x265000 x265001 x276000 x276001 x276002
def trustquorumlaw05_SlicesSatisfy.l1 : Nat → List Int → Int → Int → Bool → Bool → List Int → Int → Int → List Int → Int → Int → List Int → List (S27) → Option (Bool)
  | 0, _, _, _, _, _, _, _, _, _, _, _, _, _ => none
  | k + 1, x5, x7, x8, x9, x10, x41, x42, x43, x265000, x265001, x276000, x276001, x276002 => if x43 < x42 then (if 0 ≤ x43 then (if x43 < (x41.length : Int) then (if x9 = true then (if x10 = true then (trustquorumlaw05_SlicesSatisfy.l1 k x5 x7 x8 true ((Go.bits .and .i64 (rd x41 x43) x8) != 0) x41 x42 (wrap64 (x43 + 1)) x265000 x265001 x276000 x276001 x276002) else (trustquorumlaw05_SlicesSatisfy.l1 k x5 x7 x8 true false x41 x42 (wrap64 (x43 + 1)) x265000 x265001 x276000 x276001 x276002)) else (if x10 = true then (trustquorumlaw05_SlicesSatisfy.l1 k x5 x7 x8 ((Go.bits .and .i64 (rd x41 x43) x8) == (rd x41 x43)) ((Go.bits .and .i64 (rd x41 x43) x8) != 0) x41 x42 (wrap64 (x43 + 1)) x265000 x265001 x276000 x276001 x276002) else (trustquorumlaw05_SlicesSatisfy.l1 k x5 x7 x8 ((Go.bits .and .i64 (rd x41 x43) x8) == (rd x41 x43)) false x41 x42 (wrap64 (x43 + 1)) x265000 x265001 x276000 x276001 x276002))) else (none)) else (none)) else ((trustquorumref02_Satisfied.f k x276000 x276001 x276002 x8).bind fun t286 => (if (x9 != t286) = true then (some false) else ((trustquorumref02_Blocked.f k x276000 x276001 x276002 x8).bind fun t287 => (if (x10 != t287) = true then (some false) else (trustquorumlaw05_SlicesSatisfy.l0 k x5 (wrap64 (x7 + 1)) x265000 x265001 x276000 x276001 x276002)))))
end
def trustquorumlaw05_SlicesSatisfy.f (k : Nat) (l0 : List Int) : Option (Bool) := (trustquorummake_New.f l0).bind fun bt262 => ((trustquorummake_Tape_Range.f bt262.1 bt262.2 1 8).bind fun bt265 => ((trustquorummake_Trust.f k bt262.1 bt265.2 bt265.1 4).bind fun bt267 => ((slices_Slices.f k bt267.1 bt267.2.1 bt267.2.2.1).bind fun bt276 => (if bt276.2 = 0 then (trustquorumlaw05_SlicesSatisfy.j0 k bt276.1 ((bt276.1.length : Int) == 0) bt262.1 bt267.2.2.2 bt267.1 bt267.2.1 bt267.2.2.1) else (trustquorumlaw05_SlicesSatisfy.j0 k bt276.1 true bt262.1 bt267.2.2.2 bt267.1 bt267.2.1 bt267.2.2.1)))))
theorem trustquorumlaw05_SlicesSatisfy.mono_l : ∀ k, (∀ y0 y1 y2 y3 y4 y5 y6, LeO (trustquorumlaw05_SlicesSatisfy.j0 k y0 y1 y2 y3 y4 y5 y6) (trustquorumlaw05_SlicesSatisfy.j0 (k + 1) y0 y1 y2 y3 y4 y5 y6)) ∧ (∀ y0 y1 y2 y3 y4 y5 y6, LeO (trustquorumlaw05_SlicesSatisfy.l0 k y0 y1 y2 y3 y4 y5 y6) (trustquorumlaw05_SlicesSatisfy.l0 (k + 1) y0 y1 y2 y3 y4 y5 y6)) ∧ (∀ y0 y1 y2 y3 y4 y5 y6 y7, LeO (trustquorumlaw05_SlicesSatisfy.j2 k y0 y1 y2 y3 y4 y5 y6 y7) (trustquorumlaw05_SlicesSatisfy.j2 (k + 1) y0 y1 y2 y3 y4 y5 y6 y7)) ∧ (∀ y0 y1 y2 y3 y4 y5 y6 y7 y8 y9 y10 y11 y12, LeO (trustquorumlaw05_SlicesSatisfy.l1 k y0 y1 y2 y3 y4 y5 y6 y7 y8 y9 y10 y11 y12) (trustquorumlaw05_SlicesSatisfy.l1 (k + 1) y0 y1 y2 y3 y4 y5 y6 y7 y8 y9 y10 y11 y12))
  | 0 => ⟨fun _ _ _ _ _ _ _ r h => by simp [trustquorumlaw05_SlicesSatisfy.j0] at h, fun _ _ _ _ _ _ _ r h => by simp [trustquorumlaw05_SlicesSatisfy.l0] at h, fun _ _ _ _ _ _ _ _ r h => by simp [trustquorumlaw05_SlicesSatisfy.j2] at h, fun _ _ _ _ _ _ _ _ _ _ _ _ _ r h => by simp [trustquorumlaw05_SlicesSatisfy.l1] at h⟩
  | k + 1 => by
    obtain ⟨ih0, ih1, ih2, ih3⟩ := trustquorumlaw05_SlicesSatisfy.mono_l k
    refine ⟨?_, ?_, ?_, ?_⟩
    · intro y0 y1 y2 y3 y4 y5 y6
      unfold trustquorumlaw05_SlicesSatisfy.j0
      repeat' first
      | (with_reducible exact ih0 _ _ _ _ _ _ _)
      | (with_reducible exact ih1 _ _ _ _ _ _ _)
      | (with_reducible exact ih2 _ _ _ _ _ _ _ _)
      | (with_reducible exact ih3 _ _ _ _ _ _ _ _ _ _ _ _ _)
      | (with_reducible exact slices_Slices.mono _ _ _ _)
      | (with_reducible exact trustquorummake_Trust.mono _ _ _ _ _)
      | (with_reducible exact trustquorumref02_Blocked.mono _ _ _ _ _)
      | (with_reducible exact trustquorumref02_Satisfied.mono _ _ _ _ _)
      | (with_reducible exact LeO.refl _)
      | (with_reducible exact LeO.none _)
      | (with_reducible refine LeO.ite ?_ ?_)
      | (with_reducible refine LeO.bind ?_ (fun _ => ?_))
      | exact ih0 _ _ _ _ _ _ _
      | exact ih1 _ _ _ _ _ _ _
      | exact ih2 _ _ _ _ _ _ _ _
      | exact ih3 _ _ _ _ _ _ _ _ _ _ _ _ _
      | exact slices_Slices.mono _ _ _ _
      | exact trustquorummake_Trust.mono _ _ _ _ _
      | exact trustquorumref02_Blocked.mono _ _ _ _ _
      | exact trustquorumref02_Satisfied.mono _ _ _ _ _
      | exact LeO.none _
      | refine LeO.ite ?_ ?_
      | refine LeO.bind ?_ (fun _ => ?_)
    · intro y0 y1 y2 y3 y4 y5 y6
      unfold trustquorumlaw05_SlicesSatisfy.l0
      repeat' first
      | (with_reducible exact ih0 _ _ _ _ _ _ _)
      | (with_reducible exact ih1 _ _ _ _ _ _ _)
      | (with_reducible exact ih2 _ _ _ _ _ _ _ _)
      | (with_reducible exact ih3 _ _ _ _ _ _ _ _ _ _ _ _ _)
      | (with_reducible exact slices_Slices.mono _ _ _ _)
      | (with_reducible exact trustquorummake_Trust.mono _ _ _ _ _)
      | (with_reducible exact trustquorumref02_Blocked.mono _ _ _ _ _)
      | (with_reducible exact trustquorumref02_Satisfied.mono _ _ _ _ _)
      | (with_reducible exact LeO.refl _)
      | (with_reducible exact LeO.none _)
      | (with_reducible refine LeO.ite ?_ ?_)
      | (with_reducible refine LeO.bind ?_ (fun _ => ?_))
      | exact ih0 _ _ _ _ _ _ _
      | exact ih1 _ _ _ _ _ _ _
      | exact ih2 _ _ _ _ _ _ _ _
      | exact ih3 _ _ _ _ _ _ _ _ _ _ _ _ _
      | exact slices_Slices.mono _ _ _ _
      | exact trustquorummake_Trust.mono _ _ _ _ _
      | exact trustquorumref02_Blocked.mono _ _ _ _ _
      | exact trustquorumref02_Satisfied.mono _ _ _ _ _
      | exact LeO.none _
      | refine LeO.ite ?_ ?_
      | refine LeO.bind ?_ (fun _ => ?_)
    · intro y0 y1 y2 y3 y4 y5 y6 y7
      unfold trustquorumlaw05_SlicesSatisfy.j2
      repeat' first
      | (with_reducible exact ih0 _ _ _ _ _ _ _)
      | (with_reducible exact ih1 _ _ _ _ _ _ _)
      | (with_reducible exact ih2 _ _ _ _ _ _ _ _)
      | (with_reducible exact ih3 _ _ _ _ _ _ _ _ _ _ _ _ _)
      | (with_reducible exact slices_Slices.mono _ _ _ _)
      | (with_reducible exact trustquorummake_Trust.mono _ _ _ _ _)
      | (with_reducible exact trustquorumref02_Blocked.mono _ _ _ _ _)
      | (with_reducible exact trustquorumref02_Satisfied.mono _ _ _ _ _)
      | (with_reducible exact LeO.refl _)
      | (with_reducible exact LeO.none _)
      | (with_reducible refine LeO.ite ?_ ?_)
      | (with_reducible refine LeO.bind ?_ (fun _ => ?_))
      | exact ih0 _ _ _ _ _ _ _
      | exact ih1 _ _ _ _ _ _ _
      | exact ih2 _ _ _ _ _ _ _ _
      | exact ih3 _ _ _ _ _ _ _ _ _ _ _ _ _
      | exact slices_Slices.mono _ _ _ _
      | exact trustquorummake_Trust.mono _ _ _ _ _
      | exact trustquorumref02_Blocked.mono _ _ _ _ _
      | exact trustquorumref02_Satisfied.mono _ _ _ _ _
      | exact LeO.none _
      | refine LeO.ite ?_ ?_
      | refine LeO.bind ?_ (fun _ => ?_)
    · intro y0 y1 y2 y3 y4 y5 y6 y7 y8 y9 y10 y11 y12
      unfold trustquorumlaw05_SlicesSatisfy.l1
      repeat' first
      | (with_reducible exact ih0 _ _ _ _ _ _ _)
      | (with_reducible exact ih1 _ _ _ _ _ _ _)
      | (with_reducible exact ih2 _ _ _ _ _ _ _ _)
      | (with_reducible exact ih3 _ _ _ _ _ _ _ _ _ _ _ _ _)
      | (with_reducible exact slices_Slices.mono _ _ _ _)
      | (with_reducible exact trustquorummake_Trust.mono _ _ _ _ _)
      | (with_reducible exact trustquorumref02_Blocked.mono _ _ _ _ _)
      | (with_reducible exact trustquorumref02_Satisfied.mono _ _ _ _ _)
      | (with_reducible exact LeO.refl _)
      | (with_reducible exact LeO.none _)
      | (with_reducible refine LeO.ite ?_ ?_)
      | (with_reducible refine LeO.bind ?_ (fun _ => ?_))
      | exact ih0 _ _ _ _ _ _ _
      | exact ih1 _ _ _ _ _ _ _
      | exact ih2 _ _ _ _ _ _ _ _
      | exact ih3 _ _ _ _ _ _ _ _ _ _ _ _ _
      | exact slices_Slices.mono _ _ _ _
      | exact trustquorummake_Trust.mono _ _ _ _ _
      | exact trustquorumref02_Blocked.mono _ _ _ _ _
      | exact trustquorumref02_Satisfied.mono _ _ _ _ _
      | exact LeO.none _
      | refine LeO.ite ?_ ?_
      | refine LeO.bind ?_ (fun _ => ?_)
theorem trustquorumlaw05_SlicesSatisfy.mono : ∀ a0 k, LeO (trustquorumlaw05_SlicesSatisfy.f k a0) (trustquorumlaw05_SlicesSatisfy.f (k + 1) a0) := by
  intro a0 k
  obtain ⟨ih0, ih1, ih2, ih3⟩ := trustquorumlaw05_SlicesSatisfy.mono_l k
  unfold trustquorumlaw05_SlicesSatisfy.f
  repeat' first
      | (with_reducible exact ih0 _ _ _ _ _ _ _)
      | (with_reducible exact ih1 _ _ _ _ _ _ _)
      | (with_reducible exact ih2 _ _ _ _ _ _ _ _)
      | (with_reducible exact ih3 _ _ _ _ _ _ _ _ _ _ _ _ _)
      | (with_reducible exact slices_Slices.mono _ _ _ _)
      | (with_reducible exact trustquorummake_Trust.mono _ _ _ _ _)
      | (with_reducible exact trustquorumref02_Blocked.mono _ _ _ _ _)
      | (with_reducible exact trustquorumref02_Satisfied.mono _ _ _ _ _)
      | (with_reducible exact LeO.refl _)
      | (with_reducible exact LeO.none _)
      | (with_reducible refine LeO.ite ?_ ?_)
      | (with_reducible refine LeO.bind ?_ (fun _ => ?_))
      | exact ih0 _ _ _ _ _ _ _
      | exact ih1 _ _ _ _ _ _ _
      | exact ih2 _ _ _ _ _ _ _ _
      | exact ih3 _ _ _ _ _ _ _ _ _ _ _ _ _
      | exact slices_Slices.mono _ _ _ _
      | exact trustquorummake_Trust.mono _ _ _ _ _
      | exact trustquorumref02_Blocked.mono _ _ _ _ _
      | exact trustquorumref02_Satisfied.mono _ _ _ _ _
      | exact LeO.none _
      | refine LeO.ite ?_ ?_
      | refine LeO.bind ?_ (fun _ => ?_)
set_option maxHeartbeats 8000000 in
set_option maxRecDepth 100000 in
theorem trustquorumlaw05_SlicesSatisfy.calls (k : Nat) (A0 : Option Addr) (c0 : Nat) (l0 : List Int) (r : Bool) (w : World) (hr0 : Kd.C (Kd.int .i64) w A0 l0.length l0) (hc0 : l0.length ≤ c0) (h : trustquorumlaw05_SlicesSatisfy.f k l0 = some r) :
    Calls Try.prog 3 #[.slice A0 l0.length c0] w fun e w' => e = .returned (.bool r) ∧ Below w.heap.size w w' := by
  have hu27 := Try.underlying27
  have HR0 := Aside0.mk hr0
  have HC0 := Aside0.mk hc0
  clear hr0 hc0
  have HB := Aside0.mk (Below.refl w.heap.size w)
  have H : ((trustquorummake_New.f l0).bind fun bt262 => ((trustquorummake_Tape_Range.f bt262.1 bt262.2 1 8).bind fun bt265 => ((trustquorummake_Trust.f k bt262.1 bt265.2 bt265.1 4).bind fun bt267 => ((slices_Slices.f k bt267.1 bt267.2.1 bt267.2.2.1).bind fun bt276 => (if bt276.2 = 0 then (trustquorumlaw05_SlicesSatisfy.j0 k bt276.1 ((bt276.1.length : Int) == 0) bt262.1 bt267.2.2.2 bt267.1 bt267.2.1 bt267.2.2.1) else (trustquorumlaw05_SlicesSatisfy.j0 k bt276.1 true bt262.1 bt267.2.2.2 bt267.1 bt267.2.1 bt267.2.2.1)))))) = some r := h
  clear h
  replace H := Option.bind_eq_some_iff.mp H
  obtain ⟨⟨t262, t263⟩, A20, H⟩ := H
  replace H : ((trustquorummake_Tape_Range.f t262 t263 1 8).bind fun bt265 => ((trustquorummake_Trust.f k t262 bt265.2 bt265.1 4).bind fun bt267 => ((slices_Slices.f k bt267.1 bt267.2.1 bt267.2.2.1).bind fun bt276 => (if bt276.2 = 0 then (trustquorumlaw05_SlicesSatisfy.j0 k bt276.1 ((bt276.1.length : Int) == 0) t262 bt267.2.2.2 bt267.1 bt267.2.1 bt267.2.2.1) else (trustquorumlaw05_SlicesSatisfy.j0 k bt276.1 true t262 bt267.2.2.2 bt267.1 bt267.2.1 bt267.2.2.1))))) = some r := H
  have A2 := Aside0.mk A20
  clear A20
  replace H := Option.bind_eq_some_iff.mp H
  obtain ⟨⟨t265, t266⟩, A30, H⟩ := H
  replace H : ((trustquorummake_Trust.f k t262 t266 t265 4).bind fun bt267 => ((slices_Slices.f k bt267.1 bt267.2.1 bt267.2.2.1).bind fun bt276 => (if bt276.2 = 0 then (trustquorumlaw05_SlicesSatisfy.j0 k bt276.1 ((bt276.1.length : Int) == 0) t262 bt267.2.2.2 bt267.1 bt267.2.1 bt267.2.2.1) else (trustquorumlaw05_SlicesSatisfy.j0 k bt276.1 true t262 bt267.2.2.2 bt267.1 bt267.2.1 bt267.2.2.1)))) = some r := H
  have A3 := Aside0.mk A30
  clear A30
  replace H := Option.bind_eq_some_iff.mp H
  obtain ⟨⟨t267, t268, t271, t274⟩, A40, H⟩ := H
  replace H : ((slices_Slices.f k t267 t268 t271).bind fun bt276 => (if bt276.2 = 0 then (trustquorumlaw05_SlicesSatisfy.j0 k bt276.1 ((bt276.1.length : Int) == 0) t262 t274 t267 t268 t271) else (trustquorumlaw05_SlicesSatisfy.j0 k bt276.1 true t262 t274 t267 t268 t271))) = some r := H
  have A4 := Aside0.mk A40
  clear A40
  replace H := Option.bind_eq_some_iff.mp H
  obtain ⟨⟨t276, t279⟩, A50, H⟩ := H
  replace H : (if t279 = 0 then (trustquorumlaw05_SlicesSatisfy.j0 k t276 ((t276.length : Int) == 0) t262 t274 t267 t268 t271) else (trustquorumlaw05_SlicesSatisfy.j0 k t276 true t262 t274 t267 t268 t271)) = some r := H
  have A5 := Aside0.mk A50
  clear A50
  have HC6 := Aside0.mk H
  clear H
  go_enter Try.func3, Try.ntmps3
  go_upto_region 4 with (first | ((with_reducible refine gate_callee (f := 6) rfl ?_); refine goesL_ (some 14) rfl rfl Try.func6 (by kernel_rfl) rfl #[.slice A0 l0.length c0] rfl (by (try simp only [List.map_toArray, List.map_cons, List.map_nil]); first | done | rfl | (simp only [List.length_drop, List.length_take]; rfl)) ?_; (with_reducible refine (trustquorummake_New.calls _ _ l0 t262 t263 w _ ?side1 ?side2 ?side3 A2.out).mono ?_); (case side1 => repeat (first | (with_reducible first | exact HB.out | apply below_alloc | apply pw_below_drewN | apply below_drew1) | exact HB.out)); (case side2 => exact HR0.out); (case side3 => exact HC0.out); rintro e w7 ⟨g264, rfl, hi, hb, hb2⟩; refine ⟨_, rfl, ?_⟩; have n0_ := Aside0.mk (hb); have n1_ := Aside0.mk (hi); clear HB; have HB := n0_; have HI264 := n1_; clear n0_ n1_; (try clear hb); (try clear hb2); (try clear hk); (try clear hi)) | ((with_reducible refine gate_callee (f := 8) rfl ?_); refine goesL_ (some 17) rfl rfl Try.func8 (by kernel_rfl) rfl #[.pointer (some ⟨g264, 0, none⟩), .int .i64 1, .int .i64 8] rfl (by (try simp only [List.map_toArray, List.map_cons, List.map_nil]); first | done | rfl | (simp only [List.length_drop, List.length_take]; rfl)) ?_; (with_reducible refine (trustquorummake_Tape_Range.calls g264 t262 t263 1 8 t265 t266 w _ ?side1 ?side2 A3.out).mono ?_); (case side1 => repeat (first | (with_reducible first | exact HI264.out | apply IsS44.alloc | apply IsS44.drewN | apply IsS44.drew | apply IsS44.set_1) | exact HI264.out)); (case side2 => repeat (first | (with_reducible first | exact HB.out | apply below_alloc | apply pw_below_drewN | apply below_drew1 | refine below_set ?_ (IsS44.ge HI264.out)) | exact HB.out)); rintro e w8 ⟨rfl, hi, hb, hk⟩; refine ⟨_, rfl, ?_⟩; have n0_ := Aside0.mk (hb); have n1_ := Aside0.mk (hi); clear HB; clear HI264; have HB := n0_; have HI264 := n1_; clear n0_ n1_; (try clear hb); (try clear hb2); (try clear hk); (try clear hi)) | ((with_reducible refine gate_callee (f := 7) rfl ?_); refine goesL_ (some 18) rfl rfl Try.func7 (by kernel_rfl) rfl #[.pointer (some ⟨g264, 0, none⟩), .int .i64 t265, .int .i64 4] rfl (by (try simp only [List.map_toArray, List.map_cons, List.map_nil]); first | done | rfl | (simp only [List.length_drop, List.length_take]; rfl)) ?_; (with_reducible refine (trustquorummake_Trust.calls k g264 t262 t266 t265 4 t267 t268 t271 t274 w _ ?side1 ?side2 A4.out).mono ?_); (case side1 => repeat (first | (with_reducible first | exact HI264.out | apply IsS44.alloc | apply IsS44.drewN | apply IsS44.drew | apply IsS44.set_1) | exact HI264.out)); (case side2 => repeat (first | (with_reducible first | exact HB.out | apply below_alloc | apply pw_below_drewN | apply below_drew1 | refine below_set ?_ (IsS44.ge HI264.out)) | exact HB.out)); rintro e w9 ⟨v269, v272, rfl, ho0, ho1, hi, hb, hk⟩; refine ⟨_, rfl, ?_⟩; have n0_ := Aside0.mk (Kd.R_lower ho0 (below_size (by repeat (first | (with_reducible first | exact HB.out | apply below_alloc | apply pw_below_drewN | apply below_drew1 | refine below_set ?_ (IsS44.ge HI264.out)) | exact HB.out)))); have n1_ := Aside0.mk (Kd.R_lower ho1 (below_size (by repeat (first | (with_reducible first | exact HB.out | apply below_alloc | apply pw_below_drewN | apply below_drew1 | refine below_set ?_ (IsS44.ge HI264.out)) | exact HB.out)))); have n2_ := Aside0.mk (hb); have n3_ := Aside0.mk (hi); clear HB; clear HI264; have HO270 := n0_; have HO273 := n1_; have HB := n2_; have HI264 := n3_; clear n0_ n1_ n2_ n3_; (try clear hb); (try clear hb2); (try clear hk); (try clear hi); (try clear ho0); (try clear ho1)) | ((with_reducible refine gate_dst (N := 4) rfl ?_); (try (refine gate_guard (by rfl) ?_; dsimp only)); refine box_event ?hg (N := 4) ?hd (cs := #[.int .i64 0, .slice none 0 0, .slice none 0 0]) (t := 27) ?hr ?_; (case hd => rfl); (case hg => rfl); (case hr => first | (go_simp; done) | (go_simp; rfl)); intro gb275 hg w10 hbox hb; have n0_ := Aside0.mk (Kd.R_below (by (with_reducible repeat (first | apply Kd.R_alloc | apply Kd.R_drewN | apply Kd.R_drew)); exact HO270.out) hb); have n1_ := Aside0.mk (Kd.R_below (Kd.R_elderB (by (with_reducible repeat (first | apply Kd.R_alloc | apply Kd.R_drewN | apply Kd.R_drew)); exact HO273.out) gb275 (Nat.le_of_eq hg.symm)) hb); have n2_ := Aside0.mk (IsS44.below (by repeat (first | (with_reducible first | exact HI264.out | apply IsS44.alloc | apply IsS44.drewN | apply IsS44.drew | apply IsS44.set_1) | exact HI264.out)) hb); have n3_ := Aside0.mk (below_step (by repeat (first | (with_reducible first | exact HB.out | apply below_alloc | apply pw_below_drewN | apply below_drew1 | refine below_set ?_ (IsS44.ge HI264.out)) | exact HB.out)) hb); have n4_ := Aside0.mk (hbox); have n5_ := Aside0.mk ((by rw [hg]; exact (below_size (by repeat (first | (with_reducible first | exact HB.out | apply below_alloc | apply pw_below_drewN | apply below_drew1 | refine below_set ?_ (IsS44.ge HI264.out)) | exact HB.out))) : w.heap.size ≤ gb275)); have n6_ := Aside0.mk ((by rw [hg]; exact (below_size (by repeat (first | (with_reducible first | exact HB.out | apply below_alloc | apply pw_below_drewN | apply below_drew1 | refine below_set ?_ (IsS44.ge HI264.out)) | exact HB.out))) : w.heap.size ≤ gb275)); have n7_ := Aside0.mk ((by rw [hg]; exact Nat.ne_of_lt (IsS44.lt (show IsS44 w _ g264 t262 t274 from by repeat (first | (with_reducible first | exact HI264.out | apply IsS44.alloc | apply IsS44.drewN | apply IsS44.drew | apply IsS44.set_1) | exact HI264.out))) : g264 ≠ gb275)); have n8_ := Aside0.mk ((by rw [hg]; exact Nat.ne_of_gt (IsS44.lt (show IsS44 w _ g264 t262 t274 from by repeat (first | (with_reducible first | exact HI264.out | apply IsS44.alloc | apply IsS44.drewN | apply IsS44.drew | apply IsS44.set_1) | exact HI264.out))) : gb275 ≠ g264)); clear HO270; clear HO273; clear HI264; clear HB; have HO270 := n0_; have HO273 := n1_; have HI264 := n2_; have HB := n3_; have BK275 := n4_; have GW275 := n5_; have GE275 := n6_; have NB264_275 := n7_; have NB275_264 := n8_; clear n0_ n1_ n2_ n3_ n4_ n5_ n6_ n7_ n8_; clear hb hbox hg; have hnb11 := NB275_264.out; have hnc11 := NB264_275.out; have hcz12_0 : w10.cell? ⟨gb275, 0, none⟩ = some (.int .i64 0) := (blk_cell BK275.out 0).trans rfl; have hcz12_1 : w10.cell? ⟨gb275, 1, none⟩ = some (.slice none 0 0) := (blk_cell BK275.out 1).trans rfl; have hcz12_2 : w10.cell? ⟨gb275, 2, none⟩ = some (.slice none 0 0) := (blk_cell BK275.out 2).trans rfl; have hfz12_0 := blk_frozen BK275.out 0; have hfz12_1 := blk_frozen BK275.out 1; have hfz12_2 := blk_frozen BK275.out 2; obtain ⟨Ao13, co13, eo13⟩ := Kd.R_slice HO270.out; subst eo13; obtain ⟨Ao14, co14, eo14⟩ := Kd.R_slice HO273.out; subst eo14) | ((with_reducible refine gate_callee (f := 9) rfl ?_); refine goesL_ (some 21) rfl rfl Try.func9 (by kernel_rfl) rfl #[.agg #[.int .i64 t267, .slice Ao13 t268.length co13, .slice Ao14 t271.length co14]] rfl (by (try simp only [List.map_toArray, List.map_cons, List.map_nil]); first | done | rfl | (simp only [List.length_drop, List.length_take]; rfl)) ?_; (with_reducible refine (slices_Slices.calls k t267 _ _ t268 _ _ t271 t276 t279 _ ?side1 ?side2 ?side3 ?side4 A5.out).mono ?_); (case side1 => refine (Kd.R_reads' (e := 3) (base := w.heap.size) (ok := fun k_ => True) (n := t268.length) (c := co13) ?_).2.2; exact (by (with_reducible repeat (first | apply Kd.R_alloc | apply Kd.R_drewN | apply Kd.R_drew)); exact (Kd.R_mono (Kd.R_far (p := ⟨gb275, 2, none⟩) (Kd.R_far (p := ⟨gb275, 1, none⟩) (Kd.R_far (p := ⟨gb275, 0, none⟩) (Kd.R_types HO270.out BK275.out (by decide)) (fun _ hk => hk.2) (.int .i64 t267)) (fun _ hk => hk.2) (.slice Ao13 t268.length co13)) (fun _ hk => hk.2) (.slice Ao14 t271.length co14)) (fun _ h_ => h_.1)))); (case side2 => exact (Kd.R_reads' HO270.out).2.1); (case side3 => refine (Kd.R_reads' (e := 27) (base := w.heap.size) (ok := fun k_ => (some k_ ≠ (.slice Ao13 t268.length co13 : Value).ownBlock ∧ k_ ≠ gb275)) (n := t271.length) (c := co14) ?_).2.2; exact (by (with_reducible repeat (first | apply Kd.R_alloc | apply Kd.R_drewN | apply Kd.R_drew)); exact (Kd.R_mono (Kd.R_far (p := ⟨gb275, 2, none⟩) (Kd.R_far (p := ⟨gb275, 1, none⟩) (Kd.R_far (p := ⟨gb275, 0, none⟩) (Kd.R_mono HO273.out (fun k_ hk => (⟨hk, hk.2⟩ : _ ∧ k_ ≠ gb275))) (fun _ hk => hk.2) (.int .i64 t267)) (fun _ hk => hk.2) (.slice Ao13 t268.length co13)) (fun _ hk => hk.2) (.slice Ao14 t271.length co14)) (fun _ h_ => h_.1)))); (case side4 => exact (Kd.R_reads' HO273.out).2.1); rintro e w15 ⟨v277, rfl, ho0, hb⟩; refine ⟨_, rfl, ?_⟩; have n0_ := Aside0.mk (Kd.R_elder' (by (with_reducible repeat (first | apply Kd.R_alloc | apply Kd.R_drewN | apply Kd.R_drew)); exact (Kd.R_mono (Kd.R_far (p := ⟨gb275, 2, none⟩) (Kd.R_far (p := ⟨gb275, 1, none⟩) (Kd.R_far (p := ⟨gb275, 0, none⟩) (Kd.R_types HO270.out BK275.out (by decide)) (fun _ hk => hk.2) (.int .i64 t267)) (fun _ hk => hk.2) (.slice Ao13 t268.length co13)) (fun _ hk => hk.2) (.slice Ao14 t271.length co14)) (fun _ h_ => h_.1))) (Kd.R_base ho0) hb); have n1_ := Aside0.mk (Kd.R_elder' (by (with_reducible repeat (first | apply Kd.R_alloc | apply Kd.R_drewN | apply Kd.R_drew)); exact (Kd.R_mono (Kd.R_far (p := ⟨gb275, 2, none⟩) (Kd.R_far (p := ⟨gb275, 1, none⟩) (Kd.R_far (p := ⟨gb275, 0, none⟩) (Kd.R_mono HO273.out (fun k_ hk => (⟨hk, hk.2⟩ : _ ∧ k_ ≠ gb275))) (fun _ hk => hk.2) (.int .i64 t267)) (fun _ hk => hk.2) (.slice Ao13 t268.length co13)) (fun _ hk => hk.2) (.slice Ao14 t271.length co14)) (fun _ h_ => h_.1))) (Kd.R_base ho0) hb); have n2_ := Aside0.mk (Kd.R_lower (Kd.R_new' ho0 (Kd.R_lt (by (with_reducible repeat (first | apply Kd.R_alloc | apply Kd.R_drewN | apply Kd.R_drew)); exact (Kd.R_mono (Kd.R_far (p := ⟨gb275, 2, none⟩) (Kd.R_far (p := ⟨gb275, 1, none⟩) (Kd.R_far (p := ⟨gb275, 0, none⟩) (Kd.R_types HO270.out BK275.out (by decide)) (fun _ hk => hk.2) (.int .i64 t267)) (fun _ hk => hk.2) (.slice Ao13 t268.length co13)) (fun _ hk => hk.2) (.slice Ao14 t271.length co14)) (fun _ h_ => h_.1))))) (below_size (by repeat (first | (with_reducible first | exact HB.out | apply below_alloc | apply pw_below_drewN | apply below_drew1 | refine below_set ?_ (IsS44.ge HI264.out) | refine below_set ?_ GE275.out) | exact HB.out)))); have n3_ := Aside0.mk (IsS44.below (show IsS44 w (((w10.setCell ⟨gb275, 0, none⟩ (.int .i64 t267)).setCell ⟨gb275, 1, none⟩ (.slice Ao13 t268.length co13)).setCell ⟨gb275, 2, none⟩ (.slice Ao14 t271.length co14)) g264 t262 t274 from by repeat (first | (with_reducible first | exact HI264.out | apply IsS44.alloc | apply IsS44.drewN | apply IsS44.drew | apply IsS44.set_1 | refine IsS44.far ?_ NB264_275.out _) | exact HI264.out)) hb); have n4_ := Aside0.mk (blk_below (g := gb275) (o := .cells #[.int .i64 t267, .slice Ao13 t268.length co13, .slice Ao14 t271.length co14] 27 (0, 0)) (by (with_reducible repeat (first | refine blk_drewN ?_ _ | refine blk_drew ?_ | refine blk_alloc ?_ _)); refine blk_put (cs := #[.int .i64 t267, .slice Ao13 t268.length co13, .slice none 0 0]) ?_ 2 _ rfl; (with_reducible repeat (first | refine blk_drewN ?_ _ | refine blk_drew ?_ | refine blk_alloc ?_ _)); refine blk_put (cs := #[.int .i64 t267, .slice none 0 0, .slice none 0 0]) ?_ 1 _ rfl; (with_reducible repeat (first | refine blk_drewN ?_ _ | refine blk_drew ?_ | refine blk_alloc ?_ _)); refine blk_put (cs := #[.int .i64 0, .slice none 0 0, .slice none 0 0]) ?_ 0 _ rfl; (with_reducible repeat (first | refine blk_drewN ?_ _ | refine blk_drew ?_ | refine blk_alloc ?_ _)); exact BK275.out) hb); have n5_ := Aside0.mk (below_step (by repeat (first | (with_reducible first | exact HB.out | apply below_alloc | apply pw_below_drewN | apply below_drew1 | refine below_set ?_ (IsS44.ge HI264.out) | refine below_set ?_ GE275.out) | exact HB.out)) hb); clear HO270; clear HO273; clear HI264; clear BK275; clear HB; have HO270 := n0_; have HO273 := n1_; have HO278 := n2_; have HI264 := n3_; have BK275 := n4_; have HB := n5_; clear n0_ n1_ n2_ n3_ n4_ n5_; (try clear hb); (try clear hb2); (try clear hk); (try clear hi); (try clear ho0)))
  (try simp only [Act.put, List.setIfInBounds_toArray, List.set_cons_zero, List.set_cons_succ])
  go_cut [30] (fun v30 wc => ∃ (kq : Nat) (x30_5 : Bool), v30 = .bool x30_5 ∧ Aside0 (trustquorumlaw05_SlicesSatisfy.j0 kq t276 x30_5 t262 t274 t267 t268 t271 = some r) ∧ Aside0 (kq ≤ k) ∧ Aside0 (Kd.R (Kd.int .i64) 3 wc w.heap.size (fun k_ => some k_ ≠ ((.slice Ao13 t268.length co13) : Value).ownBlock) v277 t276) ∧ Aside0 (Kd.R (Kd.int .i64) 3 wc w.heap.size (fun k_ => some k_ ≠ (v277 : Value).ownBlock) (.slice Ao13 t268.length co13) t268) ∧ Aside0 (Kd.R k27 27 wc w.heap.size (fun k_ => some k_ ≠ (v277 : Value).ownBlock ∧ some k_ ≠ ((.slice Ao13 t268.length co13) : Value).ownBlock ∧ k_ ≠ gb275) (.slice Ao14 t271.length co14) t271) ∧ Aside0 (wc.heap[gb275]? = some (.cells #[.int .i64 t267, (.slice Ao13 t268.length co13), (.slice Ao14 t271.length co14)] 27 (0, 0))) ∧ Aside0 (IsS44 w wc g264 t262 t274) ∧ Aside0 (Below w.heap.size w wc))
  case first =>
    have H := HC6.out
    clear HC6
    by_cases c16 : t279 = 0
    · rw [if_pos c16] at H
      have c16b0 : (t279 == 0) = true := beq_iff_eq.mpr c16
      have c16b1 : (t279 != 0) = false := bne_eq_false_iff_eq.mpr c16
      clear c16
      (first | rw [c16b0] | (simp only [i64_w, i32_w]; rw [c16b0]) | skip)
      have H' := Aside0.mk H
      clear H
      obtain ⟨Ao17, co17, eo17⟩ := Kd.R_slice HO278.out
      subst eo17
      go_wp2
      go_meet
      case rel => exact ⟨_, (((t276.length : Int) == 0)), (by first | rfl | (simp; done) | (simp [*]; done)), H', ⟨by first | omega | exact Nat.le_refl _⟩, ⟨by (with_reducible repeat (first | apply Kd.R_alloc | apply Kd.R_drewN | apply Kd.R_drew)); exact Kd.R_mono HO278.out (fun _ hk => hk.2)⟩, ⟨by (with_reducible repeat (first | apply Kd.R_alloc | apply Kd.R_drewN | apply Kd.R_drew)); exact Kd.R_mono HO270.out (fun _ hk => hk.2)⟩, ⟨by (with_reducible repeat (first | apply Kd.R_alloc | apply Kd.R_drewN | apply Kd.R_drew)); exact Kd.R_mono HO273.out (fun _ hk => ⟨hk.2, ⟨hk.1.1, hk.1.2⟩⟩)⟩, ⟨by (with_reducible repeat (first | refine blk_drewN ?_ _ | refine blk_drew ?_ | refine blk_alloc ?_ _)); exact BK275.out⟩, ⟨by repeat (first | (with_reducible first | exact HI264.out | apply IsS44.alloc | apply IsS44.drewN | apply IsS44.drew | apply IsS44.set_1 | refine IsS44.far ?_ NB264_275.out _) | exact HI264.out)⟩, ⟨by repeat (first | (with_reducible first | exact HB.out | apply below_alloc | apply pw_below_drewN | apply below_drew1 | refine below_set ?_ (IsS44.ge HI264.out) | refine below_set ?_ GE275.out) | exact HB.out)⟩⟩
    · rw [if_neg c16] at H
      have c16b0 : (t279 == 0) = false := beq_eq_false_iff_ne.mpr c16
      have c16b1 : (t279 != 0) = true := bne_iff_ne.mpr c16
      (first | rw [c16b0] | (simp only [i64_w, i32_w]; rw [c16b0]) | skip)
      have H' := Aside0.mk H
      clear H
      go_wp2
      go_meet
      case rel => exact ⟨_, (true), (by first | rfl | (simp; done) | (simp [*]; done)), H', ⟨by first | omega | exact Nat.le_refl _⟩, ⟨by (with_reducible repeat (first | apply Kd.R_alloc | apply Kd.R_drewN | apply Kd.R_drew)); exact Kd.R_mono HO278.out (fun _ hk => hk.2)⟩, ⟨by (with_reducible repeat (first | apply Kd.R_alloc | apply Kd.R_drewN | apply Kd.R_drew)); exact Kd.R_mono HO270.out (fun _ hk => hk.2)⟩, ⟨by (with_reducible repeat (first | apply Kd.R_alloc | apply Kd.R_drewN | apply Kd.R_drew)); exact Kd.R_mono HO273.out (fun _ hk => ⟨hk.2, ⟨hk.1.1, hk.1.2⟩⟩)⟩, ⟨by (with_reducible repeat (first | refine blk_drewN ?_ _ | refine blk_drew ?_ | refine blk_alloc ?_ _)); exact BK275.out⟩, ⟨by repeat (first | (with_reducible first | exact HI264.out | apply IsS44.alloc | apply IsS44.drewN | apply IsS44.drew | apply IsS44.set_1 | refine IsS44.far ?_ NB264_275.out _) | exact HI264.out)⟩, ⟨by repeat (first | (with_reducible first | exact HB.out | apply below_alloc | apply pw_below_drewN | apply below_drew1 | refine below_set ?_ (IsS44.ge HI264.out) | refine below_set ?_ GE275.out) | exact HB.out)⟩⟩
  case rest =>
    clear HC6
    try clear c1
    try clear p2
    try clear c3
    try clear c6
    try clear c7
    try clear c8
    try clear c9
    try clear c11
    try clear c16
    try clear c16b0
    try clear c16b1
    try clear hcz12_0
    try clear hcz12_1
    try clear hcz12_2
    try clear hfz12_0
    try clear hfz12_1
    try clear hfz12_2
    obtain ⟨kq, x30_5, rfl, HA, HJ5, HO_5, HO_276001, HO_276002, BK275, HI264, HB⟩ := hcut
    cases kq with
    | zero => exact absurd HA.out (by simp [trustquorumlaw05_SlicesSatisfy.j0])
    | succ kj5 =>
      have H := HA.out
      clear HA
      simp only [trustquorumlaw05_SlicesSatisfy.j0] at H
      by_cases c18 : x30_5 = true
      · subst c18
        have H1 : (some false) = some r := by rw [if_pos rfl] at H; exact H
        clear H
        have H := H1
        clear H1
        obtain rfl := Option.some.inj H
        go_wp2
        go_ret
        exact ⟨by first | rfl | (simp [errW_none, errW_some] <;> rfl) | (simp [*, errW_none, errW_some] <;> rfl), by repeat (first | (with_reducible first | exact HB.out | apply below_alloc | apply pw_below_drewN | apply below_drew1 | refine below_set ?_ (IsS44.ge HI264.out) | refine below_set ?_ GE275.out) | exact HB.out)⟩
      · replace c18 := Bool.eq_false_iff.mpr c18
        subst c18
        have H1 : (trustquorumlaw05_SlicesSatisfy.l0 kj5 t276 0 t262 t274 t267 t268 t271) = some r := by rw [if_neg (show ¬ (false = true) by decide)] at H; exact H
        clear H
        have H := H1
        clear H1
        have H' := Aside0.mk H
        clear H
        go_wp2
        go_loopg [7] kj5 (fun kq v7 w' => ∃ (x7_2 : Int) (x265001_2 : Int), v7 = .int .i64 x7_2 ∧ Aside0 (trustquorumlaw05_SlicesSatisfy.l0 kq t276 x7_2 t262 x265001_2 t267 t268 t271 = some r) ∧ Aside0 (kq ≤ kj5) ∧ Aside0 (Kd.R (Kd.int .i64) 3 w' w.heap.size (fun k_ => some k_ ≠ ((.slice Ao13 t268.length co13) : Value).ownBlock) v277 t276) ∧ Aside0 (Kd.R (Kd.int .i64) 3 w' w.heap.size (fun k_ => some k_ ≠ (v277 : Value).ownBlock) (.slice Ao13 t268.length co13) t268) ∧ Aside0 (Kd.R k27 27 w' w.heap.size (fun k_ => some k_ ≠ (v277 : Value).ownBlock ∧ some k_ ≠ ((.slice Ao13 t268.length co13) : Value).ownBlock ∧ k_ ≠ gb275) (.slice Ao14 t271.length co14) t271) ∧ Aside0 (w'.heap[gb275]? = some (.cells #[.int .i64 t267, (.slice Ao13 t268.length co13), (.slice Ao14 t271.length co14)] 27 (0, 0))) ∧ Aside0 (IsS44 w w' g264 t262 x265001_2) ∧ Aside0 (Below w.heap.size w w'))
        case atStart => exact ⟨(0), (t274), (by first | rfl | (simp; done) | (simp [*]; done)), H', ⟨Nat.le_refl _⟩, ⟨by (with_reducible repeat (first | apply Kd.R_alloc | apply Kd.R_drewN | apply Kd.R_drew)); exact HO_5.out⟩, ⟨by (with_reducible repeat (first | apply Kd.R_alloc | apply Kd.R_drewN | apply Kd.R_drew)); exact HO_276001.out⟩, ⟨by (with_reducible repeat (first | apply Kd.R_alloc | apply Kd.R_drewN | apply Kd.R_drew)); exact HO_276002.out⟩, ⟨by (with_reducible repeat (first | refine blk_drewN ?_ _ | refine blk_drew ?_ | refine blk_alloc ?_ _)); exact BK275.out⟩, ⟨by repeat (first | (with_reducible first | exact HI264.out | apply IsS44.alloc | apply IsS44.drewN | apply IsS44.drew | apply IsS44.set_1 | refine IsS44.far ?_ NB264_275.out _) | exact HI264.out)⟩, ⟨by repeat (first | (with_reducible first | exact HB.out | apply below_alloc | apply pw_below_drewN | apply below_drew1 | refine below_set ?_ (IsS44.ge HI264.out) | refine below_set ?_ GE275.out) | exact HB.out)⟩⟩
        case round =>
          clear H'
          try clear c1
          try clear p2
          try clear c3
          try clear c6
          try clear c7
          try clear c8
          try clear c9
          try clear c11
          try clear c16
          try clear c16b0
          try clear c16b1
          try clear c18
          try clear hcz12_0
          try clear hcz12_1
          try clear hcz12_2
          try clear hfz12_0
          try clear hfz12_1
          try clear hfz12_2
          try clear p2
          obtain ⟨x7_2, x265001_2, rfl, HA, HK2, HO_5, HO_276001, HO_276002, BK275, HI264, HB⟩ := hrel
          cases gk with
          | zero => exact absurd HA.out (by simp [trustquorumlaw05_SlicesSatisfy.l0])
          | succ k2 =>
            have H := HA.out
            clear HA
            simp only [trustquorumlaw05_SlicesSatisfy.l0] at H
            by_cases c19 : x7_2 < 40
            · rw [if_pos c19] at H
              have c19b0 : decide (x7_2 < 40) = true := decide_eq_true c19
              clear c19
              replace H := Option.bind_eq_some_iff.mp H
              obtain ⟨⟨t281, t282⟩, A200, H⟩ := H
              replace H : (if x7_2 < 20 then ((trustquorummake_Tape_N.f t262 t282 256).bind fun bt283 => (trustquorumlaw05_SlicesSatisfy.j2 k2 t276 x7_2 bt283.1 t262 bt283.2 t267 t268 t271)) else (trustquorumlaw05_SlicesSatisfy.j2 k2 t276 x7_2 t281 t262 t282 t267 t268 t271)) = some r := H
              have A20 := Aside0.mk A200
              clear A200
              have HC21 := Aside0.mk H
              clear H
              go_upto_if 38 with (first | ((with_reducible refine gate_callee (f := 10) rfl ?_); refine goesL_ (some 36) rfl rfl Try.func10 (by kernel_rfl) rfl #[.pointer (some ⟨g264, 0, none⟩), .int .i64 1024] rfl (by (try simp only [List.map_toArray, List.map_cons, List.map_nil]); first | done | rfl | (simp only [List.length_drop, List.length_take]; rfl)) ?_; (with_reducible refine (trustquorummake_Tape_N.calls g264 t262 x265001_2 1024 t281 t282 w _ ?side1 ?side2 A20.out).mono ?_); (case side1 => repeat (first | (with_reducible first | exact HI264.out | apply IsS44.alloc | apply IsS44.drewN | apply IsS44.drew | apply IsS44.set_1 | refine IsS44.far ?_ NB264_275.out _) | exact HI264.out)); (case side2 => repeat (first | (with_reducible first | exact HB.out | apply below_alloc | apply pw_below_drewN | apply below_drew1 | refine below_set ?_ (IsS44.ge HI264.out) | refine below_set ?_ GE275.out) | exact HB.out)); rintro e w22 ⟨rfl, hi, hb, hk⟩; refine ⟨_, rfl, ?_⟩; have n0_ := Aside0.mk (Kd.R_mono (Kd.R_keep (IsS44.apart (show IsS44 w _ g264 t262 x265001_2 from by repeat (first | (with_reducible first | exact HI264.out | apply IsS44.alloc | apply IsS44.drewN | apply IsS44.drew | apply IsS44.set_1 | refine IsS44.far ?_ NB264_275.out _) | exact HI264.out)) (by (with_reducible repeat (first | apply Kd.R_alloc | apply Kd.R_drewN | apply Kd.R_drew)); exact HO_5.out) (by decide)) hk (fun _ h => h.2)) (fun _ h => h.1)); have n1_ := Aside0.mk (Kd.R_mono (Kd.R_keep (IsS44.apart (show IsS44 w _ g264 t262 x265001_2 from by repeat (first | (with_reducible first | exact HI264.out | apply IsS44.alloc | apply IsS44.drewN | apply IsS44.drew | apply IsS44.set_1 | refine IsS44.far ?_ NB264_275.out _) | exact HI264.out)) (by (with_reducible repeat (first | apply Kd.R_alloc | apply Kd.R_drewN | apply Kd.R_drew)); exact HO_276001.out) (by decide)) hk (fun _ h => h.2)) (fun _ h => h.1)); have n2_ := Aside0.mk (Kd.R_mono (Kd.R_keep (IsS44.apart (show IsS44 w _ g264 t262 x265001_2 from by repeat (first | (with_reducible first | exact HI264.out | apply IsS44.alloc | apply IsS44.drewN | apply IsS44.drew | apply IsS44.set_1 | refine IsS44.far ?_ NB264_275.out _) | exact HI264.out)) (by (with_reducible repeat (first | apply Kd.R_alloc | apply Kd.R_drewN | apply Kd.R_drew)); exact HO_276002.out) (by decide)) hk (fun _ h => h.2)) (fun _ h => h.1)); have n3_ := Aside0.mk (KeepBut.blk hk (g' := gb275) (o := .cells #[.int .i64 t267, .slice Ao13 t268.length co13, .slice Ao14 t271.length co14] 27 (0, 0)) (by (with_reducible repeat (first | refine blk_drewN ?_ _ | refine blk_drew ?_ | refine blk_alloc ?_ _)); exact BK275.out) NB275_264.out (by simp)); have n4_ := Aside0.mk (hb); have n5_ := Aside0.mk (hi); clear HO_5; clear HO_276001; clear HO_276002; clear BK275; clear HB; clear HI264; have HO_5 := n0_; have HO_276001 := n1_; have HO_276002 := n2_; have BK275 := n3_; have HB := n4_; have HI264 := n5_; clear n0_ n1_ n2_ n3_ n4_ n5_; (try clear hb); (try clear hb2); (try clear hk); (try clear hi)))
              (try simp only [Act.put, List.setIfInBounds_toArray, List.set_cons_zero, List.set_cons_succ])
              go_cut [8] (fun v8 wc => ∃ (kq : Nat) (x8_20 : Int) (x265001_20 : Int), v8 = .int .i64 x8_20 ∧ Aside0 (trustquorumlaw05_SlicesSatisfy.j2 kq t276 x7_2 x8_20 t262 x265001_20 t267 t268 t271 = some r) ∧ Aside0 (kq ≤ k2) ∧ Aside0 (Kd.R (Kd.int .i64) 3 wc w.heap.size (fun k_ => some k_ ≠ ((.slice Ao13 t268.length co13) : Value).ownBlock) v277 t276) ∧ Aside0 (Kd.R (Kd.int .i64) 3 wc w.heap.size (fun k_ => some k_ ≠ (v277 : Value).ownBlock) (.slice Ao13 t268.length co13) t268) ∧ Aside0 (Kd.R k27 27 wc w.heap.size (fun k_ => some k_ ≠ (v277 : Value).ownBlock ∧ some k_ ≠ ((.slice Ao13 t268.length co13) : Value).ownBlock ∧ k_ ≠ gb275) (.slice Ao14 t271.length co14) t271) ∧ Aside0 (wc.heap[gb275]? = some (.cells #[.int .i64 t267, (.slice Ao13 t268.length co13), (.slice Ao14 t271.length co14)] 27 (0, 0))) ∧ Aside0 (IsS44 w wc g264 t262 x265001_20) ∧ Aside0 (Below w.heap.size w wc))
              case first =>
                have H := HC21.out
                clear HC21
                by_cases c23 : x7_2 < 20
                · rw [if_pos c23] at H
                  have c23b0 : decide (x7_2 < 20) = true := decide_eq_true c23
                  clear c23
                  (first | rw [c23b0] | (simp only [i64_w, i32_w]; rw [c23b0]) | skip)
                  replace H := Option.bind_eq_some_iff.mp H
                  obtain ⟨⟨t283, t284⟩, A240, H⟩ := H
                  replace H : (trustquorumlaw05_SlicesSatisfy.j2 k2 t276 x7_2 t283 t262 t284 t267 t268 t271) = some r := H
                  have A24 := Aside0.mk A240
                  clear A240
                  have H' := Aside0.mk H
                  clear H
                  go_wp2_with (first | ((with_reducible refine gate_callee (f := 10) rfl ?_); refine goesL_ (some 40) rfl rfl Try.func10 (by kernel_rfl) rfl #[.pointer (some ⟨g264, 0, none⟩), .int .i64 256] rfl (by (try simp only [List.map_toArray, List.map_cons, List.map_nil]); first | done | rfl | (simp only [List.length_drop, List.length_take]; rfl)) ?_; (with_reducible refine (trustquorummake_Tape_N.calls g264 t262 t282 256 t283 t284 w _ ?side1 ?side2 A24.out).mono ?_); (case side1 => repeat (first | (with_reducible first | exact HI264.out | apply IsS44.alloc | apply IsS44.drewN | apply IsS44.drew | apply IsS44.set_1 | refine IsS44.far ?_ NB264_275.out _) | exact HI264.out)); (case side2 => repeat (first | (with_reducible first | exact HB.out | apply below_alloc | apply pw_below_drewN | apply below_drew1 | refine below_set ?_ (IsS44.ge HI264.out) | refine below_set ?_ GE275.out) | exact HB.out)); rintro e w25 ⟨rfl, hi, hb, hk⟩; refine ⟨_, rfl, ?_⟩; have n0_ := Aside0.mk (Kd.R_mono (Kd.R_keep (IsS44.apart (show IsS44 w _ g264 t262 t282 from by repeat (first | (with_reducible first | exact HI264.out | apply IsS44.alloc | apply IsS44.drewN | apply IsS44.drew | apply IsS44.set_1 | refine IsS44.far ?_ NB264_275.out _) | exact HI264.out)) (by (with_reducible repeat (first | apply Kd.R_alloc | apply Kd.R_drewN | apply Kd.R_drew)); exact HO_5.out) (by decide)) hk (fun _ h => h.2)) (fun _ h => h.1)); have n1_ := Aside0.mk (Kd.R_mono (Kd.R_keep (IsS44.apart (show IsS44 w _ g264 t262 t282 from by repeat (first | (with_reducible first | exact HI264.out | apply IsS44.alloc | apply IsS44.drewN | apply IsS44.drew | apply IsS44.set_1 | refine IsS44.far ?_ NB264_275.out _) | exact HI264.out)) (by (with_reducible repeat (first | apply Kd.R_alloc | apply Kd.R_drewN | apply Kd.R_drew)); exact HO_276001.out) (by decide)) hk (fun _ h => h.2)) (fun _ h => h.1)); have n2_ := Aside0.mk (Kd.R_mono (Kd.R_keep (IsS44.apart (show IsS44 w _ g264 t262 t282 from by repeat (first | (with_reducible first | exact HI264.out | apply IsS44.alloc | apply IsS44.drewN | apply IsS44.drew | apply IsS44.set_1 | refine IsS44.far ?_ NB264_275.out _) | exact HI264.out)) (by (with_reducible repeat (first | apply Kd.R_alloc | apply Kd.R_drewN | apply Kd.R_drew)); exact HO_276002.out) (by decide)) hk (fun _ h => h.2)) (fun _ h => h.1)); have n3_ := Aside0.mk (KeepBut.blk hk (g' := gb275) (o := .cells #[.int .i64 t267, .slice Ao13 t268.length co13, .slice Ao14 t271.length co14] 27 (0, 0)) (by (with_reducible repeat (first | refine blk_drewN ?_ _ | refine blk_drew ?_ | refine blk_alloc ?_ _)); exact BK275.out) NB275_264.out (by simp)); have n4_ := Aside0.mk (hb); have n5_ := Aside0.mk (hi); clear HO_5; clear HO_276001; clear HO_276002; clear BK275; clear HB; clear HI264; have HO_5 := n0_; have HO_276001 := n1_; have HO_276002 := n2_; have BK275 := n3_; have HB := n4_; have HI264 := n5_; clear n0_ n1_ n2_ n3_ n4_ n5_; (try clear hb); (try clear hb2); (try clear hk); (try clear hi)))
                  go_meet
                  case rel => exact ⟨_, (t283), (t284), (by first | rfl | (simp; done) | (simp [*]; done)), H', ⟨by have := HJ5.out; have := HK2.out; first | omega | exact Nat.le_refl _⟩, ⟨by (with_reducible repeat (first | apply Kd.R_alloc | apply Kd.R_drewN | apply Kd.R_drew)); exact HO_5.out⟩, ⟨by (with_reducible repeat (first | apply Kd.R_alloc | apply Kd.R_drewN | apply Kd.R_drew)); exact HO_276001.out⟩, ⟨by (with_reducible repeat (first | apply Kd.R_alloc | apply Kd.R_drewN | apply Kd.R_drew)); exact HO_276002.out⟩, ⟨by (with_reducible repeat (first | refine blk_drewN ?_ _ | refine blk_drew ?_ | refine blk_alloc ?_ _)); exact BK275.out⟩, ⟨by repeat (first | (with_reducible first | exact HI264.out | apply IsS44.alloc | apply IsS44.drewN | apply IsS44.drew | apply IsS44.set_1 | refine IsS44.far ?_ NB264_275.out _) | exact HI264.out)⟩, ⟨by repeat (first | (with_reducible first | exact HB.out | apply below_alloc | apply pw_below_drewN | apply below_drew1 | refine below_set ?_ (IsS44.ge HI264.out) | refine below_set ?_ GE275.out) | exact HB.out)⟩⟩
                · rw [if_neg c23] at H
                  have c23b0 : decide (x7_2 < 20) = false := decide_eq_false c23
                  clear c23
                  (first | rw [c23b0] | (simp only [i64_w, i32_w]; rw [c23b0]) | skip)
                  have H' := Aside0.mk H
                  clear H
                  go_wp2
                  go_meet
                  case rel => exact ⟨_, (t281), (t282), (by first | rfl | (simp; done) | (simp [*]; done)), H', ⟨by have := HJ5.out; have := HK2.out; first | omega | exact Nat.le_refl _⟩, ⟨by (with_reducible repeat (first | apply Kd.R_alloc | apply Kd.R_drewN | apply Kd.R_drew)); exact HO_5.out⟩, ⟨by (with_reducible repeat (first | apply Kd.R_alloc | apply Kd.R_drewN | apply Kd.R_drew)); exact HO_276001.out⟩, ⟨by (with_reducible repeat (first | apply Kd.R_alloc | apply Kd.R_drewN | apply Kd.R_drew)); exact HO_276002.out⟩, ⟨by (with_reducible repeat (first | refine blk_drewN ?_ _ | refine blk_drew ?_ | refine blk_alloc ?_ _)); exact BK275.out⟩, ⟨by repeat (first | (with_reducible first | exact HI264.out | apply IsS44.alloc | apply IsS44.drewN | apply IsS44.drew | apply IsS44.set_1 | refine IsS44.far ?_ NB264_275.out _) | exact HI264.out)⟩, ⟨by repeat (first | (with_reducible first | exact HB.out | apply below_alloc | apply pw_below_drewN | apply below_drew1 | refine below_set ?_ (IsS44.ge HI264.out) | refine below_set ?_ GE275.out) | exact HB.out)⟩⟩
              case rest =>
                clear HC21
                try clear c1
                try clear c2
                try clear p2
                try clear c3
                try clear c6
                try clear c7
                try clear c8
                try clear c9
                try clear c10
                try clear c11
                try clear c16
                try clear c16b0
                try clear c16b1
                try clear c18
                try clear c19
                try clear c19b0
                try clear c23
                try clear c23b0
                try clear hcz12_0
                try clear hcz12_1
                try clear hcz12_2
                try clear hfz12_0
                try clear hfz12_1
                try clear hfz12_2
                try clear p2
                obtain ⟨kq, x8_20, x265001_20, rfl, HA, HJ20, HO_5, HO_276001, HO_276002, BK275, HI264, HB⟩ := hcut
                cases kq with
                | zero => exact absurd HA.out (by simp [trustquorumlaw05_SlicesSatisfy.j2])
                | succ kj20 =>
                  have H := HA.out
                  clear HA
                  simp only [trustquorumlaw05_SlicesSatisfy.j2] at H
                  have H' := Aside0.mk H
                  clear H
                  obtain ⟨Ao26, co26, eo26⟩ := Kd.R_slice HO_5.out
                  subst eo26
                  go_wp2
                  go_loopg [9, 10, 43] kj20 (fun kq v9 v10 v43 w' => ∃ (x9_4 : Bool) (x10_4 : Bool) (x43_4 : Int), v9 = .bool x9_4 ∧ v10 = .bool x10_4 ∧ v43 = .int .i64 x43_4 ∧ Aside0 (trustquorumlaw05_SlicesSatisfy.l1 kq t276 x7_2 x8_20 x9_4 x10_4 t276 (t276.length : Int) x43_4 t262 x265001_20 t267 t268 t271 = some r) ∧ Aside0 (kq ≤ kj20) ∧ Aside0 (Kd.R (Kd.int .i64) 3 w' w.heap.size (fun k_ => some k_ ≠ ((.slice Ao13 t268.length co13) : Value).ownBlock) (.slice Ao26 t276.length co26) t276) ∧ Aside0 (Kd.R (Kd.int .i64) 3 w' w.heap.size (fun k_ => some k_ ≠ ((.slice Ao13 t268.length co13) : Value).ownBlock) (.slice Ao26 t276.length co26) t276) ∧ Aside0 (Kd.R (Kd.int .i64) 3 w' w.heap.size (fun k_ => some k_ ≠ ((.slice Ao26 t276.length co26) : Value).ownBlock ∧ some k_ ≠ ((.slice Ao26 t276.length co26) : Value).ownBlock) (.slice Ao13 t268.length co13) t268) ∧ Aside0 (Kd.R k27 27 w' w.heap.size (fun k_ => some k_ ≠ ((.slice Ao26 t276.length co26) : Value).ownBlock ∧ some k_ ≠ ((.slice Ao26 t276.length co26) : Value).ownBlock ∧ some k_ ≠ ((.slice Ao13 t268.length co13) : Value).ownBlock ∧ k_ ≠ gb275) (.slice Ao14 t271.length co14) t271) ∧ Aside0 (w'.heap[gb275]? = some (.cells #[.int .i64 t267, (.slice Ao13 t268.length co13), (.slice Ao14 t271.length co14)] 27 (0, 0))) ∧ Aside0 (IsS44 w w' g264 t262 x265001_20) ∧ Aside0 (Below w.heap.size w w'))
                  case atStart => exact ⟨(false), (true), (0), (by first | rfl | (simp; done) | (simp [*]; done)), (by first | rfl | (simp; done) | (simp [*]; done)), (by first | rfl | (simp; done) | (simp [*]; done)), H', ⟨Nat.le_refl _⟩, ⟨by (with_reducible repeat (first | apply Kd.R_alloc | apply Kd.R_drewN | apply Kd.R_drew)); exact HO_5.out⟩, ⟨by (with_reducible repeat (first | apply Kd.R_alloc | apply Kd.R_drewN | apply Kd.R_drew)); exact HO_5.out⟩, ⟨by (with_reducible repeat (first | apply Kd.R_alloc | apply Kd.R_drewN | apply Kd.R_drew)); exact Kd.R_mono HO_276001.out (fun _ hk => ⟨hk, hk⟩)⟩, ⟨by (with_reducible repeat (first | apply Kd.R_alloc | apply Kd.R_drewN | apply Kd.R_drew)); exact Kd.R_mono HO_276002.out (fun _ hk => ⟨hk.1, ⟨hk.1, ⟨hk.2.1, hk.2.2⟩⟩⟩)⟩, ⟨by (with_reducible repeat (first | refine blk_drewN ?_ _ | refine blk_drew ?_ | refine blk_alloc ?_ _)); exact BK275.out⟩, ⟨by repeat (first | (with_reducible first | exact HI264.out | apply IsS44.alloc | apply IsS44.drewN | apply IsS44.drew | apply IsS44.set_1 | refine IsS44.far ?_ NB264_275.out _) | exact HI264.out)⟩, ⟨by repeat (first | (with_reducible first | exact HB.out | apply below_alloc | apply pw_below_drewN | apply below_drew1 | refine below_set ?_ (IsS44.ge HI264.out) | refine below_set ?_ GE275.out) | exact HB.out)⟩⟩
                  case round =>
                    clear H'
                    try clear c1
                    try clear c2
                    try clear p2
                    try clear c3
                    try clear c6
                    try clear c7
                    try clear c8
                    try clear c9
                    try clear c10
                    try clear c11
                    try clear c16
                    try clear c16b0
                    try clear c16b1
                    try clear c18
                    try clear c19
                    try clear c19b0
                    try clear c23
                    try clear c23b0
                    try clear hcz12_0
                    try clear hcz12_1
                    try clear hcz12_2
                    try clear hfz12_0
                    try clear hfz12_1
                    try clear hfz12_2
                    try clear p2
                    obtain ⟨x9_4, x10_4, x43_4, rfl, rfl, rfl, HA, HK4, HO_5, HO_41, HO_276001, HO_276002, BK275, HI264, HB⟩ := hrel
                    cases gk with
                    | zero => exact absurd HA.out (by simp [trustquorumlaw05_SlicesSatisfy.l1])
                    | succ k4 =>
                      have H := HA.out
                      clear HA
                      simp only [trustquorumlaw05_SlicesSatisfy.l1] at H
                      by_cases c27 : x43_4 < (t276.length : Int)
                      · rw [if_pos c27] at H
                        have c27b0 : decide (x43_4 < (t276.length : Int)) = true := decide_eq_true c27
                        clear c27
                        by_cases c28 : 0 ≤ x43_4
                        · rw [if_pos c28] at H
                          have c28b0 : decide (0 ≤ x43_4) = true := decide_eq_true c28
                          clear c28
                          by_cases c29 : x43_4 < (t276.length : Int)
                          · rw [if_pos c29] at H
                            have c29b0 : decide (x43_4 < (t276.length : Int)) = true := decide_eq_true c29
                            clear c29
                            by_cases c30 : x9_4 = true
                            · subst c30
                              have H1 : (if x10_4 = true then (trustquorumlaw05_SlicesSatisfy.l1 k4 t276 x7_2 x8_20 true ((Go.bits .and .i64 (rd t276 x43_4) x8_20) != 0) t276 (t276.length : Int) (wrap64 (x43_4 + 1)) t262 x265001_20 t267 t268 t271) else (trustquorumlaw05_SlicesSatisfy.l1 k4 t276 x7_2 x8_20 true false t276 (t276.length : Int) (wrap64 (x43_4 + 1)) t262 x265001_20 t267 t268 t271)) = some r := by rw [if_pos rfl] at H; exact H
                              clear H
                              have H := H1
                              clear H1
                              by_cases c31 : x10_4 = true
                              · subst c31
                                have H1 : (trustquorumlaw05_SlicesSatisfy.l1 k4 t276 x7_2 x8_20 true ((Go.bits .and .i64 (rd t276 x43_4) x8_20) != 0) t276 (t276.length : Int) (wrap64 (x43_4 + 1)) t262 x265001_20 t267 t268 t271) = some r := by rw [if_pos rfl] at H; exact H
                                clear H
                                have H := H1
                                clear H1
                                have H' := Aside0.mk H
                                clear H
                                have p285 : 0 ≤ (x43_4 : Int) := of_decide_eq_true (by first | (with_reducible assumption) | assumption)
                                have q285 : x43_4 < (t276.length : Int) := of_decide_eq_true (by first | (with_reducible assumption) | assumption)
                                obtain ⟨ad285, e285, hx285_0⟩ := Kd.at_int (Kd.R_reads' HO_41.out).2.2 x43_4 p285 q285
                                cases e285
                                replace p285 := eq_true p285
                                replace q285 := eq_true q285
                                go_wp2
                                go_roundg k4
                                case measure => have := HJ5.out; have := HK2.out; have := HJ20.out; have := HK4.out; omega
                                case rel => exact ⟨(true), (((Go.bits .and .i64 (rd t276 x43_4) x8_20) != 0)), (wrap64 (x43_4 + 1)), (by first | rfl | (simp; done) | (simp [*]; done)), (by first | rfl | (simp; done) | (simp [*]; done)), (by first | rfl | (simp; done) | (simp [*]; done)), H', ⟨by have := HJ5.out; have := HK2.out; have := HJ20.out; have := HK4.out; omega⟩, ⟨by (with_reducible repeat (first | apply Kd.R_alloc | apply Kd.R_drewN | apply Kd.R_drew)); exact HO_5.out⟩, ⟨by (with_reducible repeat (first | apply Kd.R_alloc | apply Kd.R_drewN | apply Kd.R_drew)); exact HO_41.out⟩, ⟨by (with_reducible repeat (first | apply Kd.R_alloc | apply Kd.R_drewN | apply Kd.R_drew)); exact HO_276001.out⟩, ⟨by (with_reducible repeat (first | apply Kd.R_alloc | apply Kd.R_drewN | apply Kd.R_drew)); exact HO_276002.out⟩, ⟨by (with_reducible repeat (first | refine blk_drewN ?_ _ | refine blk_drew ?_ | refine blk_alloc ?_ _)); exact BK275.out⟩, ⟨by repeat (first | (with_reducible first | exact HI264.out | apply IsS44.alloc | apply IsS44.drewN | apply IsS44.drew | apply IsS44.set_1 | refine IsS44.far ?_ NB264_275.out _) | exact HI264.out)⟩, ⟨by repeat (first | (with_reducible first | exact HB.out | apply below_alloc | apply pw_below_drewN | apply below_drew1 | refine below_set ?_ (IsS44.ge HI264.out) | refine below_set ?_ GE275.out) | exact HB.out)⟩⟩
                              · replace c31 := Bool.eq_false_iff.mpr c31
                                subst c31
                                have H1 : (trustquorumlaw05_SlicesSatisfy.l1 k4 t276 x7_2 x8_20 true false t276 (t276.length : Int) (wrap64 (x43_4 + 1)) t262 x265001_20 t267 t268 t271) = some r := by rw [if_neg (show ¬ (false = true) by decide)] at H; exact H
                                clear H
                                have H := H1
                                clear H1
                                have H' := Aside0.mk H
                                clear H
                                have p285 : 0 ≤ (x43_4 : Int) := of_decide_eq_true (by first | (with_reducible assumption) | assumption)
                                have q285 : x43_4 < (t276.length : Int) := of_decide_eq_true (by first | (with_reducible assumption) | assumption)
                                obtain ⟨ad285, e285, hx285_0⟩ := Kd.at_int (Kd.R_reads' HO_41.out).2.2 x43_4 p285 q285
                                cases e285
                                replace p285 := eq_true p285
                                replace q285 := eq_true q285
                                go_wp2
                                go_roundg k4
                                case measure => have := HJ5.out; have := HK2.out; have := HJ20.out; have := HK4.out; omega
                                case rel => exact ⟨(true), (false), (wrap64 (x43_4 + 1)), (by first | rfl | (simp; done) | (simp [*]; done)), (by first | rfl | (simp; done) | (simp [*]; done)), (by first | rfl | (simp; done) | (simp [*]; done)), H', ⟨by have := HJ5.out; have := HK2.out; have := HJ20.out; have := HK4.out; omega⟩, ⟨by (with_reducible repeat (first | apply Kd.R_alloc | apply Kd.R_drewN | apply Kd.R_drew)); exact HO_5.out⟩, ⟨by (with_reducible repeat (first | apply Kd.R_alloc | apply Kd.R_drewN | apply Kd.R_drew)); exact HO_41.out⟩, ⟨by (with_reducible repeat (first | apply Kd.R_alloc | apply Kd.R_drewN | apply Kd.R_drew)); exact HO_276001.out⟩, ⟨by (with_reducible repeat (first | apply Kd.R_alloc | apply Kd.R_drewN | apply Kd.R_drew)); exact HO_276002.out⟩, ⟨by (with_reducible repeat (first | refine blk_drewN ?_ _ | refine blk_drew ?_ | refine blk_alloc ?_ _)); exact BK275.out⟩, ⟨by repeat (first | (with_reducible first | exact HI264.out | apply IsS44.alloc | apply IsS44.drewN | apply IsS44.drew | apply IsS44.set_1 | refine IsS44.far ?_ NB264_275.out _) | exact HI264.out)⟩, ⟨by repeat (first | (with_reducible first | exact HB.out | apply below_alloc | apply pw_below_drewN | apply below_drew1 | refine below_set ?_ (IsS44.ge HI264.out) | refine below_set ?_ GE275.out) | exact HB.out)⟩⟩
                            · replace c30 := Bool.eq_false_iff.mpr c30
                              subst c30
                              have H1 : (if x10_4 = true then (trustquorumlaw05_SlicesSatisfy.l1 k4 t276 x7_2 x8_20 ((Go.bits .and .i64 (rd t276 x43_4) x8_20) == (rd t276 x43_4)) ((Go.bits .and .i64 (rd t276 x43_4) x8_20) != 0) t276 (t276.length : Int) (wrap64 (x43_4 + 1)) t262 x265001_20 t267 t268 t271) else (trustquorumlaw05_SlicesSatisfy.l1 k4 t276 x7_2 x8_20 ((Go.bits .and .i64 (rd t276 x43_4) x8_20) == (rd t276 x43_4)) false t276 (t276.length : Int) (wrap64 (x43_4 + 1)) t262 x265001_20 t267 t268 t271)) = some r := by rw [if_neg (show ¬ (false = true) by decide)] at H; exact H
                              clear H
                              have H := H1
                              clear H1
                              by_cases c32 : x10_4 = true
                              · subst c32
                                have H1 : (trustquorumlaw05_SlicesSatisfy.l1 k4 t276 x7_2 x8_20 ((Go.bits .and .i64 (rd t276 x43_4) x8_20) == (rd t276 x43_4)) ((Go.bits .and .i64 (rd t276 x43_4) x8_20) != 0) t276 (t276.length : Int) (wrap64 (x43_4 + 1)) t262 x265001_20 t267 t268 t271) = some r := by rw [if_pos rfl] at H; exact H
                                clear H
                                have H := H1
                                clear H1
                                have H' := Aside0.mk H
                                clear H
                                have p285 : 0 ≤ (x43_4 : Int) := of_decide_eq_true (by first | (with_reducible assumption) | assumption)
                                have q285 : x43_4 < (t276.length : Int) := of_decide_eq_true (by first | (with_reducible assumption) | assumption)
                                obtain ⟨ad285, e285, hx285_0⟩ := Kd.at_int (Kd.R_reads' HO_41.out).2.2 x43_4 p285 q285
                                cases e285
                                replace p285 := eq_true p285
                                replace q285 := eq_true q285
                                go_wp2
                                go_roundg k4
                                case measure => have := HJ5.out; have := HK2.out; have := HJ20.out; have := HK4.out; omega
                                case rel => exact ⟨(((Go.bits .and .i64 (rd t276 x43_4) x8_20) == (rd t276 x43_4))), (((Go.bits .and .i64 (rd t276 x43_4) x8_20) != 0)), (wrap64 (x43_4 + 1)), (by first | rfl | (simp; done) | (simp [*]; done)), (by first | rfl | (simp; done) | (simp [*]; done)), (by first | rfl | (simp; done) | (simp [*]; done)), H', ⟨by have := HJ5.out; have := HK2.out; have := HJ20.out; have := HK4.out; omega⟩, ⟨by (with_reducible repeat (first | apply Kd.R_alloc | apply Kd.R_drewN | apply Kd.R_drew)); exact HO_5.out⟩, ⟨by (with_reducible repeat (first | apply Kd.R_alloc | apply Kd.R_drewN | apply Kd.R_drew)); exact HO_41.out⟩, ⟨by (with_reducible repeat (first | apply Kd.R_alloc | apply Kd.R_drewN | apply Kd.R_drew)); exact HO_276001.out⟩, ⟨by (with_reducible repeat (first | apply Kd.R_alloc | apply Kd.R_drewN | apply Kd.R_drew)); exact HO_276002.out⟩, ⟨by (with_reducible repeat (first | refine blk_drewN ?_ _ | refine blk_drew ?_ | refine blk_alloc ?_ _)); exact BK275.out⟩, ⟨by repeat (first | (with_reducible first | exact HI264.out | apply IsS44.alloc | apply IsS44.drewN | apply IsS44.drew | apply IsS44.set_1 | refine IsS44.far ?_ NB264_275.out _) | exact HI264.out)⟩, ⟨by repeat (first | (with_reducible first | exact HB.out | apply below_alloc | apply pw_below_drewN | apply below_drew1 | refine below_set ?_ (IsS44.ge HI264.out) | refine below_set ?_ GE275.out) | exact HB.out)⟩⟩
                              · replace c32 := Bool.eq_false_iff.mpr c32
                                subst c32
                                have H1 : (trustquorumlaw05_SlicesSatisfy.l1 k4 t276 x7_2 x8_20 ((Go.bits .and .i64 (rd t276 x43_4) x8_20) == (rd t276 x43_4)) false t276 (t276.length : Int) (wrap64 (x43_4 + 1)) t262 x265001_20 t267 t268 t271) = some r := by rw [if_neg (show ¬ (false = true) by decide)] at H; exact H
                                clear H
                                have H := H1
                                clear H1
                                have H' := Aside0.mk H
                                clear H
                                have p285 : 0 ≤ (x43_4 : Int) := of_decide_eq_true (by first | (with_reducible assumption) | assumption)
                                have q285 : x43_4 < (t276.length : Int) := of_decide_eq_true (by first | (with_reducible assumption) | assumption)
                                obtain ⟨ad285, e285, hx285_0⟩ := Kd.at_int (Kd.R_reads' HO_41.out).2.2 x43_4 p285 q285
                                cases e285
                                replace p285 := eq_true p285
                                replace q285 := eq_true q285
                                go_wp2
                                go_roundg k4
                                case measure => have := HJ5.out; have := HK2.out; have := HJ20.out; have := HK4.out; omega
                                case rel => exact ⟨(((Go.bits .and .i64 (rd t276 x43_4) x8_20) == (rd t276 x43_4))), (false), (wrap64 (x43_4 + 1)), (by first | rfl | (simp; done) | (simp [*]; done)), (by first | rfl | (simp; done) | (simp [*]; done)), (by first | rfl | (simp; done) | (simp [*]; done)), H', ⟨by have := HJ5.out; have := HK2.out; have := HJ20.out; have := HK4.out; omega⟩, ⟨by (with_reducible repeat (first | apply Kd.R_alloc | apply Kd.R_drewN | apply Kd.R_drew)); exact HO_5.out⟩, ⟨by (with_reducible repeat (first | apply Kd.R_alloc | apply Kd.R_drewN | apply Kd.R_drew)); exact HO_41.out⟩, ⟨by (with_reducible repeat (first | apply Kd.R_alloc | apply Kd.R_drewN | apply Kd.R_drew)); exact HO_276001.out⟩, ⟨by (with_reducible repeat (first | apply Kd.R_alloc | apply Kd.R_drewN | apply Kd.R_drew)); exact HO_276002.out⟩, ⟨by (with_reducible repeat (first | refine blk_drewN ?_ _ | refine blk_drew ?_ | refine blk_alloc ?_ _)); exact BK275.out⟩, ⟨by repeat (first | (with_reducible first | exact HI264.out | apply IsS44.alloc | apply IsS44.drewN | apply IsS44.drew | apply IsS44.set_1 | refine IsS44.far ?_ NB264_275.out _) | exact HI264.out)⟩, ⟨by repeat (first | (with_reducible first | exact HB.out | apply below_alloc | apply pw_below_drewN | apply below_drew1 | refine below_set ?_ (IsS44.ge HI264.out) | refine below_set ?_ GE275.out) | exact HB.out)⟩⟩
                          · rw [if_neg c29] at H
                            exact absurd H (by simp)
                        · rw [if_neg c28] at H
                          exact absurd H (by simp)
                      · rw [if_neg c27] at H
                        have c27b0 : decide (x43_4 < (t276.length : Int)) = false := decide_eq_false c27
                        clear c27
                        replace H := Option.bind_eq_some_iff.mp H
                        obtain ⟨t286, A330, H⟩ := H
                        replace H : (if (x9_4 != t286) = true then (some false) else ((trustquorumref02_Blocked.f k4 t267 t268 t271 x8_20).bind fun t287 => (if (x10_4 != t287) = true then (some false) else (trustquorumlaw05_SlicesSatisfy.l0 k4 t276 (wrap64 (x7_2 + 1)) t262 x265001_20 t267 t268 t271)))) = some r := H
                        have A33 := Aside0.mk A330
                        clear A330
                        by_cases c34 : (x9_4 != t286) = true
                        · rw [if_pos c34] at H
                          have c34b0 : (x9_4 != t286) = true := c34
                          (try (have c34b1 : decide (x9_4 = t286) = false := by simpa using c34))
                          (try (have c34b2 : (x9_4 == t286) = false := by simpa using c34))
                          (try (have c34b3 : ¬ (x9_4 = t286) := by simpa using c34))
                          clear c34
                          obtain rfl := Option.some.inj H
                          have hnb35 := NB275_264.out
                          have hnc35 := NB264_275.out
                          have hcz36_0 : wr.cell? ⟨gb275, 0, none⟩ = some (.int .i64 t267) := (blk_cell BK275.out 0).trans rfl
                          have hcz36_1 : wr.cell? ⟨gb275, 1, none⟩ = some (.slice Ao13 t268.length co13) := (blk_cell BK275.out 1).trans rfl
                          have hcz36_2 : wr.cell? ⟨gb275, 2, none⟩ = some (.slice Ao14 t271.length co14) := (blk_cell BK275.out 2).trans rfl
                          have hfz36_0 := blk_frozen BK275.out 0
                          have hfz36_1 := blk_frozen BK275.out 1
                          have hfz36_2 := blk_frozen BK275.out 2
                          go_wp2_with (first | ((with_reducible refine gate_callee (f := 11) rfl ?_); refine goesL_ (some 66) rfl rfl Try.func11 (by kernel_rfl) rfl #[.agg #[.int .i64 t267, .slice Ao13 t268.length co13, .slice Ao14 t271.length co14], .int .i64 x8_20] rfl (by (try simp only [List.map_toArray, List.map_cons, List.map_nil]); first | done | rfl | (simp only [List.length_drop, List.length_take]; rfl)) ?_; (with_reducible refine (trustquorumref02_Satisfied.calls k4 t267 _ _ t268 _ _ t271 x8_20 t286 _ ?side1 ?side2 ?side3 ?side4 A33.out).mono ?_); (case side1 => repeat (first | exact (Kd.R_reads' HO_276001.out).2.2 | (with_reducible refine Kd.C_alloc ?_ _) | (with_reducible refine Kd.C_drewN ?_ _) | (with_reducible refine Kd.C_drew ?_))); (case side2 => exact (Kd.R_reads' HO_276001.out).2.1); (case side3 => repeat (first | exact (Kd.R_reads' HO_276002.out).2.2 | (with_reducible refine Kd.C_alloc ?_ _) | (with_reducible refine Kd.C_drewN ?_ _) | (with_reducible refine Kd.C_drew ?_))); (case side4 => exact (Kd.R_reads' HO_276002.out).2.1); rintro e w37 ⟨rfl, hb⟩; refine ⟨_, rfl, ?_⟩; have n0_ := Aside0.mk (Kd.R_below (by (with_reducible repeat (first | apply Kd.R_alloc | apply Kd.R_drewN | apply Kd.R_drew)); exact HO_5.out) hb); have n1_ := Aside0.mk (Kd.R_below (by (with_reducible repeat (first | apply Kd.R_alloc | apply Kd.R_drewN | apply Kd.R_drew)); exact HO_41.out) hb); have n2_ := Aside0.mk (Kd.R_below (by (with_reducible repeat (first | apply Kd.R_alloc | apply Kd.R_drewN | apply Kd.R_drew)); exact HO_276001.out) hb); have n3_ := Aside0.mk (Kd.R_below (by (with_reducible repeat (first | apply Kd.R_alloc | apply Kd.R_drewN | apply Kd.R_drew)); exact HO_276002.out) hb); have n4_ := Aside0.mk (blk_below (g := gb275) (o := .cells #[.int .i64 t267, .slice Ao13 t268.length co13, .slice Ao14 t271.length co14] 27 (0, 0)) (by (with_reducible repeat (first | refine blk_drewN ?_ _ | refine blk_drew ?_ | refine blk_alloc ?_ _)); exact BK275.out) hb); have n5_ := Aside0.mk (IsS44.below (by repeat (first | (with_reducible first | exact HI264.out | apply IsS44.alloc | apply IsS44.drewN | apply IsS44.drew | apply IsS44.set_1 | refine IsS44.far ?_ NB264_275.out _) | exact HI264.out)) hb); have n6_ := Aside0.mk (below_step (by repeat (first | (with_reducible first | exact HB.out | apply below_alloc | apply pw_below_drewN | apply below_drew1 | refine below_set ?_ (IsS44.ge HI264.out) | refine below_set ?_ GE275.out) | exact HB.out)) hb); clear HO_5; clear HO_41; clear HO_276001; clear HO_276002; clear BK275; clear HI264; clear HB; have HO_5 := n0_; have HO_41 := n1_; have HO_276001 := n2_; have HO_276002 := n3_; have BK275 := n4_; have HI264 := n5_; have HB := n6_; clear n0_ n1_ n2_ n3_ n4_ n5_ n6_; (try clear hb); (try clear hb2); (try clear hk); (try clear hi)))
                          go_ret
                          exact ⟨by first | rfl | (simp [errW_none, errW_some] <;> rfl) | (simp [*, errW_none, errW_some] <;> rfl), by repeat (first | (with_reducible first | exact HB.out | apply below_alloc | apply pw_below_drewN | apply below_drew1 | refine below_set ?_ (IsS44.ge HI264.out) | refine below_set ?_ GE275.out) | exact HB.out)⟩
                        · rw [if_neg c34] at H
                          have c34b0 : (x9_4 != t286) = false := by simpa using c34
                          (try (have c34b1 : decide (x9_4 = t286) = true := by simpa using c34))
                          (try (have c34b2 : (x9_4 == t286) = true := by simpa using c34))
                          clear c34
                          replace H := Option.bind_eq_some_iff.mp H
                          obtain ⟨t287, A380, H⟩ := H
                          replace H : (if (x10_4 != t287) = true then (some false) else (trustquorumlaw05_SlicesSatisfy.l0 k4 t276 (wrap64 (x7_2 + 1)) t262 x265001_20 t267 t268 t271)) = some r := H
                          have A38 := Aside0.mk A380
                          clear A380
                          by_cases c39 : (x10_4 != t287) = true
                          · rw [if_pos c39] at H
                            have c39b0 : (x10_4 != t287) = true := c39
                            (try (have c39b1 : decide (x10_4 = t287) = false := by simpa using c39))
                            (try (have c39b2 : (x10_4 == t287) = false := by simpa using c39))
                            (try (have c39b3 : ¬ (x10_4 = t287) := by simpa using c39))
                            clear c39
                            obtain rfl := Option.some.inj H
                            have hnb40 := NB275_264.out
                            have hnc40 := NB264_275.out
                            have hcz41_0 : wr.cell? ⟨gb275, 0, none⟩ = some (.int .i64 t267) := (blk_cell BK275.out 0).trans rfl
                            have hcz41_1 : wr.cell? ⟨gb275, 1, none⟩ = some (.slice Ao13 t268.length co13) := (blk_cell BK275.out 1).trans rfl
                            have hcz41_2 : wr.cell? ⟨gb275, 2, none⟩ = some (.slice Ao14 t271.length co14) := (blk_cell BK275.out 2).trans rfl
                            have hfz41_0 := blk_frozen BK275.out 0
                            have hfz41_1 := blk_frozen BK275.out 1
                            have hfz41_2 := blk_frozen BK275.out 2
                            go_wp2_with (first | ((with_reducible refine gate_callee (f := 11) rfl ?_); refine goesL_ (some 66) rfl rfl Try.func11 (by kernel_rfl) rfl #[.agg #[.int .i64 t267, .slice Ao13 t268.length co13, .slice Ao14 t271.length co14], .int .i64 x8_20] rfl (by (try simp only [List.map_toArray, List.map_cons, List.map_nil]); first | done | rfl | (simp only [List.length_drop, List.length_take]; rfl)) ?_; (with_reducible refine (trustquorumref02_Satisfied.calls k4 t267 _ _ t268 _ _ t271 x8_20 t286 _ ?side1 ?side2 ?side3 ?side4 A33.out).mono ?_); (case side1 => repeat (first | exact (Kd.R_reads' HO_276001.out).2.2 | (with_reducible refine Kd.C_alloc ?_ _) | (with_reducible refine Kd.C_drewN ?_ _) | (with_reducible refine Kd.C_drew ?_))); (case side2 => exact (Kd.R_reads' HO_276001.out).2.1); (case side3 => repeat (first | exact (Kd.R_reads' HO_276002.out).2.2 | (with_reducible refine Kd.C_alloc ?_ _) | (with_reducible refine Kd.C_drewN ?_ _) | (with_reducible refine Kd.C_drew ?_))); (case side4 => exact (Kd.R_reads' HO_276002.out).2.1); rintro e w42 ⟨rfl, hb⟩; refine ⟨_, rfl, ?_⟩; have n0_ := Aside0.mk (Kd.R_below (by (with_reducible repeat (first | apply Kd.R_alloc | apply Kd.R_drewN | apply Kd.R_drew)); exact HO_5.out) hb); have n1_ := Aside0.mk (Kd.R_below (by (with_reducible repeat (first | apply Kd.R_alloc | apply Kd.R_drewN | apply Kd.R_drew)); exact HO_41.out) hb); have n2_ := Aside0.mk (Kd.R_below (by (with_reducible repeat (first | apply Kd.R_alloc | apply Kd.R_drewN | apply Kd.R_drew)); exact HO_276001.out) hb); have n3_ := Aside0.mk (Kd.R_below (by (with_reducible repeat (first | apply Kd.R_alloc | apply Kd.R_drewN | apply Kd.R_drew)); exact HO_276002.out) hb); have n4_ := Aside0.mk (blk_below (g := gb275) (o := .cells #[.int .i64 t267, .slice Ao13 t268.length co13, .slice Ao14 t271.length co14] 27 (0, 0)) (by (with_reducible repeat (first | refine blk_drewN ?_ _ | refine blk_drew ?_ | refine blk_alloc ?_ _)); exact BK275.out) hb); have n5_ := Aside0.mk (IsS44.below (by repeat (first | (with_reducible first | exact HI264.out | apply IsS44.alloc | apply IsS44.drewN | apply IsS44.drew | apply IsS44.set_1 | refine IsS44.far ?_ NB264_275.out _) | exact HI264.out)) hb); have n6_ := Aside0.mk (below_step (by repeat (first | (with_reducible first | exact HB.out | apply below_alloc | apply pw_below_drewN | apply below_drew1 | refine below_set ?_ (IsS44.ge HI264.out) | refine below_set ?_ GE275.out) | exact HB.out)) hb); clear HO_5; clear HO_41; clear HO_276001; clear HO_276002; clear BK275; clear HI264; clear HB; have HO_5 := n0_; have HO_41 := n1_; have HO_276001 := n2_; have HO_276002 := n3_; have BK275 := n4_; have HI264 := n5_; have HB := n6_; clear n0_ n1_ n2_ n3_ n4_ n5_ n6_; (try clear hb); (try clear hb2); (try clear hk); (try clear hi); have hcz43_0 : w42.cell? ⟨gb275, 0, none⟩ = some (.int .i64 t267) := (blk_cell BK275.out 0).trans rfl; have hcz43_1 : w42.cell? ⟨gb275, 1, none⟩ = some (.slice Ao13 t268.length co13) := (blk_cell BK275.out 1).trans rfl; have hcz43_2 : w42.cell? ⟨gb275, 2, none⟩ = some (.slice Ao14 t271.length co14) := (blk_cell BK275.out 2).trans rfl; have hfz43_0 := blk_frozen BK275.out 0; have hfz43_1 := blk_frozen BK275.out 1; have hfz43_2 := blk_frozen BK275.out 2) | (go_at_call 12; (with_reducible refine (trustquorumref02_Blocked.calls k4 t267 _ _ t268 _ _ t271 x8_20 t287 _ ?side1 ?side2 ?side3 ?side4 A38.out).mono ?_); (case side1 => repeat (first | exact (Kd.R_reads' HO_276001.out).2.2 | (with_reducible refine Kd.C_alloc ?_ _) | (with_reducible refine Kd.C_drewN ?_ _) | (with_reducible refine Kd.C_drew ?_))); (case side2 => exact (Kd.R_reads' HO_276001.out).2.1); (case side3 => repeat (first | exact (Kd.R_reads' HO_276002.out).2.2 | (with_reducible refine Kd.C_alloc ?_ _) | (with_reducible refine Kd.C_drewN ?_ _) | (with_reducible refine Kd.C_drew ?_))); (case side4 => exact (Kd.R_reads' HO_276002.out).2.1); rintro e w44 ⟨rfl, hb⟩; have n0_ := Aside0.mk (Kd.R_below (by (with_reducible repeat (first | apply Kd.R_alloc | apply Kd.R_drewN | apply Kd.R_drew)); exact HO_5.out) hb); have n1_ := Aside0.mk (Kd.R_below (by (with_reducible repeat (first | apply Kd.R_alloc | apply Kd.R_drewN | apply Kd.R_drew)); exact HO_41.out) hb); have n2_ := Aside0.mk (Kd.R_below (by (with_reducible repeat (first | apply Kd.R_alloc | apply Kd.R_drewN | apply Kd.R_drew)); exact HO_276001.out) hb); have n3_ := Aside0.mk (Kd.R_below (by (with_reducible repeat (first | apply Kd.R_alloc | apply Kd.R_drewN | apply Kd.R_drew)); exact HO_276002.out) hb); have n4_ := Aside0.mk (blk_below (g := gb275) (o := .cells #[.int .i64 t267, .slice Ao13 t268.length co13, .slice Ao14 t271.length co14] 27 (0, 0)) (by (with_reducible repeat (first | refine blk_drewN ?_ _ | refine blk_drew ?_ | refine blk_alloc ?_ _)); exact BK275.out) hb); have n5_ := Aside0.mk (IsS44.below (by repeat (first | (with_reducible first | exact HI264.out | apply IsS44.alloc | apply IsS44.drewN | apply IsS44.drew | apply IsS44.set_1 | refine IsS44.far ?_ NB264_275.out _) | exact HI264.out)) hb); have n6_ := Aside0.mk (below_step (by repeat (first | (with_reducible first | exact HB.out | apply below_alloc | apply pw_below_drewN | apply below_drew1 | refine below_set ?_ (IsS44.ge HI264.out) | refine below_set ?_ GE275.out) | exact HB.out)) hb); clear HO_5; clear HO_41; clear HO_276001; clear HO_276002; clear BK275; clear HI264; clear HB; have HO_5 := n0_; have HO_41 := n1_; have HO_276001 := n2_; have HO_276002 := n3_; have BK275 := n4_; have HI264 := n5_; have HB := n6_; clear n0_ n1_ n2_ n3_ n4_ n5_ n6_; (try clear hb); (try clear hb2); (try clear hk); (try clear hi)))
                            go_ret
                            exact ⟨by first | rfl | (simp [errW_none, errW_some] <;> rfl) | (simp [*, errW_none, errW_some] <;> rfl), by repeat (first | (with_reducible first | exact HB.out | apply below_alloc | apply pw_below_drewN | apply below_drew1 | refine below_set ?_ (IsS44.ge HI264.out) | refine below_set ?_ GE275.out) | exact HB.out)⟩
                          · rw [if_neg c39] at H
                            have c39b0 : (x10_4 != t287) = false := by simpa using c39
                            (try (have c39b1 : decide (x10_4 = t287) = true := by simpa using c39))
                            (try (have c39b2 : (x10_4 == t287) = true := by simpa using c39))
                            clear c39
                            have H' := Aside0.mk H
                            clear H
                            have hnb45 := NB275_264.out
                            have hnc45 := NB264_275.out
                            have hcz46_0 : wr.cell? ⟨gb275, 0, none⟩ = some (.int .i64 t267) := (blk_cell BK275.out 0).trans rfl
                            have hcz46_1 : wr.cell? ⟨gb275, 1, none⟩ = some (.slice Ao13 t268.length co13) := (blk_cell BK275.out 1).trans rfl
                            have hcz46_2 : wr.cell? ⟨gb275, 2, none⟩ = some (.slice Ao14 t271.length co14) := (blk_cell BK275.out 2).trans rfl
                            have hfz46_0 := blk_frozen BK275.out 0
                            have hfz46_1 := blk_frozen BK275.out 1
                            have hfz46_2 := blk_frozen BK275.out 2
                            go_wp2_with (first | ((with_reducible refine gate_callee (f := 11) rfl ?_); refine goesL_ (some 66) rfl rfl Try.func11 (by kernel_rfl) rfl #[.agg #[.int .i64 t267, .slice Ao13 t268.length co13, .slice Ao14 t271.length co14], .int .i64 x8_20] rfl (by (try simp only [List.map_toArray, List.map_cons, List.map_nil]); first | done | rfl | (simp only [List.length_drop, List.length_take]; rfl)) ?_; (with_reducible refine (trustquorumref02_Satisfied.calls k4 t267 _ _ t268 _ _ t271 x8_20 t286 _ ?side1 ?side2 ?side3 ?side4 A33.out).mono ?_); (case side1 => repeat (first | exact (Kd.R_reads' HO_276001.out).2.2 | (with_reducible refine Kd.C_alloc ?_ _) | (with_reducible refine Kd.C_drewN ?_ _) | (with_reducible refine Kd.C_drew ?_))); (case side2 => exact (Kd.R_reads' HO_276001.out).2.1); (case side3 => repeat (first | exact (Kd.R_reads' HO_276002.out).2.2 | (with_reducible refine Kd.C_alloc ?_ _) | (with_reducible refine Kd.C_drewN ?_ _) | (with_reducible refine Kd.C_drew ?_))); (case side4 => exact (Kd.R_reads' HO_276002.out).2.1); rintro e w47 ⟨rfl, hb⟩; refine ⟨_, rfl, ?_⟩; have n0_ := Aside0.mk (Kd.R_below (by (with_reducible repeat (first | apply Kd.R_alloc | apply Kd.R_drewN | apply Kd.R_drew)); exact HO_5.out) hb); have n1_ := Aside0.mk (Kd.R_below (by (with_reducible repeat (first | apply Kd.R_alloc | apply Kd.R_drewN | apply Kd.R_drew)); exact HO_41.out) hb); have n2_ := Aside0.mk (Kd.R_below (by (with_reducible repeat (first | apply Kd.R_alloc | apply Kd.R_drewN | apply Kd.R_drew)); exact HO_276001.out) hb); have n3_ := Aside0.mk (Kd.R_below (by (with_reducible repeat (first | apply Kd.R_alloc | apply Kd.R_drewN | apply Kd.R_drew)); exact HO_276002.out) hb); have n4_ := Aside0.mk (blk_below (g := gb275) (o := .cells #[.int .i64 t267, .slice Ao13 t268.length co13, .slice Ao14 t271.length co14] 27 (0, 0)) (by (with_reducible repeat (first | refine blk_drewN ?_ _ | refine blk_drew ?_ | refine blk_alloc ?_ _)); exact BK275.out) hb); have n5_ := Aside0.mk (IsS44.below (by repeat (first | (with_reducible first | exact HI264.out | apply IsS44.alloc | apply IsS44.drewN | apply IsS44.drew | apply IsS44.set_1 | refine IsS44.far ?_ NB264_275.out _) | exact HI264.out)) hb); have n6_ := Aside0.mk (below_step (by repeat (first | (with_reducible first | exact HB.out | apply below_alloc | apply pw_below_drewN | apply below_drew1 | refine below_set ?_ (IsS44.ge HI264.out) | refine below_set ?_ GE275.out) | exact HB.out)) hb); clear HO_5; clear HO_41; clear HO_276001; clear HO_276002; clear BK275; clear HI264; clear HB; have HO_5 := n0_; have HO_41 := n1_; have HO_276001 := n2_; have HO_276002 := n3_; have BK275 := n4_; have HI264 := n5_; have HB := n6_; clear n0_ n1_ n2_ n3_ n4_ n5_ n6_; (try clear hb); (try clear hb2); (try clear hk); (try clear hi); have hcz48_0 : w47.cell? ⟨gb275, 0, none⟩ = some (.int .i64 t267) := (blk_cell BK275.out 0).trans rfl; have hcz48_1 : w47.cell? ⟨gb275, 1, none⟩ = some (.slice Ao13 t268.length co13) := (blk_cell BK275.out 1).trans rfl; have hcz48_2 : w47.cell? ⟨gb275, 2, none⟩ = some (.slice Ao14 t271.length co14) := (blk_cell BK275.out 2).trans rfl; have hfz48_0 := blk_frozen BK275.out 0; have hfz48_1 := blk_frozen BK275.out 1; have hfz48_2 := blk_frozen BK275.out 2) | (go_at_call 12; (with_reducible refine (trustquorumref02_Blocked.calls k4 t267 _ _ t268 _ _ t271 x8_20 t287 _ ?side1 ?side2 ?side3 ?side4 A38.out).mono ?_); (case side1 => repeat (first | exact (Kd.R_reads' HO_276001.out).2.2 | (with_reducible refine Kd.C_alloc ?_ _) | (with_reducible refine Kd.C_drewN ?_ _) | (with_reducible refine Kd.C_drew ?_))); (case side2 => exact (Kd.R_reads' HO_276001.out).2.1); (case side3 => repeat (first | exact (Kd.R_reads' HO_276002.out).2.2 | (with_reducible refine Kd.C_alloc ?_ _) | (with_reducible refine Kd.C_drewN ?_ _) | (with_reducible refine Kd.C_drew ?_))); (case side4 => exact (Kd.R_reads' HO_276002.out).2.1); rintro e w49 ⟨rfl, hb⟩; have n0_ := Aside0.mk (Kd.R_below (by (with_reducible repeat (first | apply Kd.R_alloc | apply Kd.R_drewN | apply Kd.R_drew)); exact HO_5.out) hb); have n1_ := Aside0.mk (Kd.R_below (by (with_reducible repeat (first | apply Kd.R_alloc | apply Kd.R_drewN | apply Kd.R_drew)); exact HO_41.out) hb); have n2_ := Aside0.mk (Kd.R_below (by (with_reducible repeat (first | apply Kd.R_alloc | apply Kd.R_drewN | apply Kd.R_drew)); exact HO_276001.out) hb); have n3_ := Aside0.mk (Kd.R_below (by (with_reducible repeat (first | apply Kd.R_alloc | apply Kd.R_drewN | apply Kd.R_drew)); exact HO_276002.out) hb); have n4_ := Aside0.mk (blk_below (g := gb275) (o := .cells #[.int .i64 t267, .slice Ao13 t268.length co13, .slice Ao14 t271.length co14] 27 (0, 0)) (by (with_reducible repeat (first | refine blk_drewN ?_ _ | refine blk_drew ?_ | refine blk_alloc ?_ _)); exact BK275.out) hb); have n5_ := Aside0.mk (IsS44.below (by repeat (first | (with_reducible first | exact HI264.out | apply IsS44.alloc | apply IsS44.drewN | apply IsS44.drew | apply IsS44.set_1 | refine IsS44.far ?_ NB264_275.out _) | exact HI264.out)) hb); have n6_ := Aside0.mk (below_step (by repeat (first | (with_reducible first | exact HB.out | apply below_alloc | apply pw_below_drewN | apply below_drew1 | refine below_set ?_ (IsS44.ge HI264.out) | refine below_set ?_ GE275.out) | exact HB.out)) hb); clear HO_5; clear HO_41; clear HO_276001; clear HO_276002; clear BK275; clear HI264; clear HB; have HO_5 := n0_; have HO_41 := n1_; have HO_276001 := n2_; have HO_276002 := n3_; have BK275 := n4_; have HI264 := n5_; have HB := n6_; clear n0_ n1_ n2_ n3_ n4_ n5_ n6_; (try clear hb); (try clear hb2); (try clear hk); (try clear hi)))
                            go_roundg k4
                            case measure => have := HJ5.out; have := HK2.out; have := HJ20.out; have := HK4.out; omega
                            case rel => exact ⟨(wrap64 (x7_2 + 1)), (x265001_20), (by first | rfl | (simp; done) | (simp [*]; done)), H', ⟨by have := HJ5.out; have := HK2.out; have := HJ20.out; have := HK4.out; omega⟩, ⟨by (with_reducible repeat (first | apply Kd.R_alloc | apply Kd.R_drewN | apply Kd.R_drew)); exact HO_5.out⟩, ⟨by (with_reducible repeat (first | apply Kd.R_alloc | apply Kd.R_drewN | apply Kd.R_drew)); exact Kd.R_mono HO_276001.out (fun _ hk => hk.1)⟩, ⟨by (with_reducible repeat (first | apply Kd.R_alloc | apply Kd.R_drewN | apply Kd.R_drew)); exact Kd.R_mono HO_276002.out (fun _ hk => ⟨hk.1, ⟨hk.2.2.1, hk.2.2.2⟩⟩)⟩, ⟨by (with_reducible repeat (first | refine blk_drewN ?_ _ | refine blk_drew ?_ | refine blk_alloc ?_ _)); exact BK275.out⟩, ⟨by repeat (first | (with_reducible first | exact HI264.out | apply IsS44.alloc | apply IsS44.drewN | apply IsS44.drew | apply IsS44.set_1 | refine IsS44.far ?_ NB264_275.out _) | exact HI264.out)⟩, ⟨by repeat (first | (with_reducible first | exact HB.out | apply below_alloc | apply pw_below_drewN | apply below_drew1 | refine below_set ?_ (IsS44.ge HI264.out) | refine below_set ?_ GE275.out) | exact HB.out)⟩⟩
            · rw [if_neg c19] at H
              have c19b0 : decide (x7_2 < 40) = false := decide_eq_false c19
              clear c19
              replace H := Option.bind_eq_some_iff.mp H
              obtain ⟨t280, A500, H⟩ := H
              replace H : (some t280) = some r := H
              have A50 := Aside0.mk A500
              clear A500
              obtain rfl := Option.some.inj H
              go_wp2_with (first | ((with_reducible refine gate_callee (f := 13) rfl ?_); refine goesL_ (some 75) rfl rfl Try.func13 (by kernel_rfl) rfl #[] rfl (by (try simp only [List.map_toArray, List.map_cons, List.map_nil]); first | done | rfl | (simp only [List.length_drop, List.length_take]; rfl)) ?_; (with_reducible refine (trustquorumlaw05_awake.calls  t280 _ A50.out).mono ?_); rintro e w51 ⟨rfl, hb⟩; refine ⟨_, rfl, ?_⟩; have n0_ := Aside0.mk (Kd.R_below (by (with_reducible repeat (first | apply Kd.R_alloc | apply Kd.R_drewN | apply Kd.R_drew)); exact HO_5.out) hb); have n1_ := Aside0.mk (Kd.R_below (by (with_reducible repeat (first | apply Kd.R_alloc | apply Kd.R_drewN | apply Kd.R_drew)); exact HO_276001.out) hb); have n2_ := Aside0.mk (Kd.R_below (by (with_reducible repeat (first | apply Kd.R_alloc | apply Kd.R_drewN | apply Kd.R_drew)); exact HO_276002.out) hb); have n3_ := Aside0.mk (blk_below (g := gb275) (o := .cells #[.int .i64 t267, .slice Ao13 t268.length co13, .slice Ao14 t271.length co14] 27 (0, 0)) (by (with_reducible repeat (first | refine blk_drewN ?_ _ | refine blk_drew ?_ | refine blk_alloc ?_ _)); exact BK275.out) hb); have n4_ := Aside0.mk (IsS44.below (by repeat (first | (with_reducible first | exact HI264.out | apply IsS44.alloc | apply IsS44.drewN | apply IsS44.drew | apply IsS44.set_1 | refine IsS44.far ?_ NB264_275.out _) | exact HI264.out)) hb); have n5_ := Aside0.mk (below_step (by repeat (first | (with_reducible first | exact HB.out | apply below_alloc | apply pw_below_drewN | apply below_drew1 | refine below_set ?_ (IsS44.ge HI264.out) | refine below_set ?_ GE275.out) | exact HB.out)) hb); clear HO_5; clear HO_276001; clear HO_276002; clear BK275; clear HI264; clear HB; have HO_5 := n0_; have HO_276001 := n1_; have HO_276002 := n2_; have BK275 := n3_; have HI264 := n4_; have HB := n5_; clear n0_ n1_ n2_ n3_ n4_ n5_; (try clear hb); (try clear hb2); (try clear hk); (try clear hi)))
              go_ret
              exact ⟨by first | rfl | (simp [errW_none, errW_some] <;> rfl) | (simp [*, errW_none, errW_some] <;> rfl), by repeat (first | (with_reducible first | exact HB.out | apply below_alloc | apply pw_below_drewN | apply below_drew1 | refine below_set ?_ (IsS44.ge HI264.out) | refine below_set ?_ GE275.out) | exact HB.out)⟩

/-- THE ONE PURE STATEMENT of trustquorumlaw05_SlicesSatisfy: yours. -/
def trustquorumlaw05_SlicesSatisfy.Pure : Prop := ∀ (l0 : List Int), l0.length ≤ maxLen → l0.length * 8 ≤ 140737488351232 → (∀ x ∈ l0, (Lit.int .i64 x).wf = true) → ∃ k, trustquorumlaw05_SlicesSatisfy.f k l0 = some true
theorem trustquorumlaw05_SlicesSatisfy.walk (P : trustquorumlaw05_SlicesSatisfy.Pure) (a0 : Option Addr) (len0 cap0 : Nat) (z0 : List Int) (w : World) (w0 : (a0 = none ∧ len0 = 0 ∧ cap0 = 0 ∧ z0 = []) ∨ ∃ x, a0 = some x ∧ len0 ≤ cap0 ∧ cap0 ≤ maxLen ∧ z0.length = cap0 ∧ (∀ i, i < z0.length → w.cell? (x.add i) = some (.int .i64 (z0.getD i 0))) ∧ ∀ n ∈ z0, (Lit.int .i64 n).wf = true) (y0 : len0 * 8 ≤ 140737488351232) :
    Calls Try.prog 3 #[.slice a0 len0 cap0] w fun e w' => e = .returned (.bool true) ∧ Below w.heap.size w w' := by
  obtain ⟨l0, rfl, hr0, hm0, hw0, hc0⟩ := ReadsInt.ofRowC w0
  obtain ⟨k, h⟩ := P l0 hm0 y0 hw0
  refine (trustquorumlaw05_SlicesSatisfy.calls k _ _ l0 true w (Kd.C_of_reads (d := (0 : Int)) (h1 := fun _ => rfl) hr0) hc0 h).mono ?_
  rintro e w' ⟨rfl, hd⟩
  exact ⟨rfl, hd⟩

/-! ### trustquorumref01_Size: function 66 -/
def trustquorumref01_Size.l0 : Nat → Int → Int → Int → Option (Int)
  | 0, _, _, _ => none
  | k + 1, x0, x3, x4 => if x4 < 10 then ((trustquorumref01_Valid.f x0).bind fun t288 => (if t288 = true then (if 0 ≤ x4 then (trustquorumref01_Size.l0 k x0 (wrap64 (x3 + (Go.bits .and .i64 (shr .i64 x0 x4) 1))) (wrap64 (x4 + 1))) else (none)) else (some x3))) else (some x3)
def trustquorumref01_Size.f (k : Nat) (a0 : Int) : Option (Int) := trustquorumref01_Size.l0 k a0 0 0
theorem trustquorumref01_Size.mono_l : ∀ k, (∀ y0 y1 y2, LeO (trustquorumref01_Size.l0 k y0 y1 y2) (trustquorumref01_Size.l0 (k + 1) y0 y1 y2))
  | 0 => fun _ _ _ r h => by simp [trustquorumref01_Size.l0] at h
  | k + 1 => by
    have ih0 := trustquorumref01_Size.mono_l k
    · intro y0 y1 y2
      unfold trustquorumref01_Size.l0
      repeat' first
      | (with_reducible exact ih0 _ _ _)
      | (with_reducible exact LeO.refl _)
      | (with_reducible exact LeO.none _)
      | (with_reducible refine LeO.ite ?_ ?_)
      | (with_reducible refine LeO.bind ?_ (fun _ => ?_))
      | exact ih0 _ _ _
      | exact LeO.none _
      | refine LeO.ite ?_ ?_
      | refine LeO.bind ?_ (fun _ => ?_)
theorem trustquorumref01_Size.mono : ∀ a0 k, LeO (trustquorumref01_Size.f k a0) (trustquorumref01_Size.f (k + 1) a0) := by
  intro a0 k
  have ih0 := trustquorumref01_Size.mono_l k
  unfold trustquorumref01_Size.f
  repeat' first
      | (with_reducible exact ih0 _ _ _)
      | (with_reducible exact LeO.refl _)
      | (with_reducible exact LeO.none _)
      | (with_reducible refine LeO.ite ?_ ?_)
      | (with_reducible refine LeO.bind ?_ (fun _ => ?_))
      | exact ih0 _ _ _
      | exact LeO.none _
      | refine LeO.ite ?_ ?_
      | refine LeO.bind ?_ (fun _ => ?_)
set_option maxHeartbeats 8000000 in
set_option maxRecDepth 100000 in
theorem trustquorumref01_Size.calls (k : Nat) (a0 : Int) (r : Int) (w : World) (h : trustquorumref01_Size.f k a0 = some r) :
    Calls Try.prog 66 #[.int .i64 a0] w fun e w' => e = .returned (.int .i64 r) ∧ Drawn0 w w' := by
  have H : (trustquorumref01_Size.l0 k a0 0 0) = some r := h
  clear h
  have H' := Aside0.mk H
  clear H
  go_enter Try.func66, Try.ntmps66
  go_wp2
  go_loopg [3, 4] k (fun kq v3 v4 w' => ∃ (x3_1 : Int) (x4_1 : Int), v3 = .int .i64 x3_1 ∧ v4 = .int .i64 x4_1 ∧ Aside0 (trustquorumref01_Size.l0 kq a0 x3_1 x4_1 = some r) ∧ Aside0 (kq ≤ k) ∧ Drawn0 w w')
  case atStart => exact ⟨(0), (0), (by first | rfl | (simp; done) | (simp [*]; done)), (by first | rfl | (simp; done) | (simp [*]; done)), H', ⟨Nat.le_refl _⟩, by repeat (first | exact Drawn0.refl _ | apply Drawn0.step)⟩
  case round =>
    clear H'
    obtain ⟨x3_1, x4_1, rfl, rfl, HA, HK1, ⟨m1, rfl⟩⟩ := hrel
    cases gk with
    | zero => exact absurd HA.out (by simp [trustquorumref01_Size.l0])
    | succ k1 =>
      have H := HA.out
      clear HA
      simp only [trustquorumref01_Size.l0] at H
      by_cases c2 : x4_1 < 10
      · rw [if_pos c2] at H
        have c2b0 : decide (x4_1 < 10) = true := decide_eq_true c2
        clear c2
        replace H := Option.bind_eq_some_iff.mp H
        obtain ⟨t288, A30, H⟩ := H
        replace H : (if t288 = true then (if 0 ≤ x4_1 then (trustquorumref01_Size.l0 k1 a0 (wrap64 (x3_1 + (Go.bits .and .i64 (shr .i64 a0 x4_1) 1))) (wrap64 (x4_1 + 1))) else (none)) else (some x3_1)) = some r := H
        have A3 := Aside0.mk A30
        clear A30
        by_cases c4 : t288 = true
        · subst c4
          have H1 : (if 0 ≤ x4_1 then (trustquorumref01_Size.l0 k1 a0 (wrap64 (x3_1 + (Go.bits .and .i64 (shr .i64 a0 x4_1) 1))) (wrap64 (x4_1 + 1))) else (none)) = some r := by rw [if_pos rfl] at H; exact H
          clear H
          have H := H1
          clear H1
          by_cases c5 : 0 ≤ x4_1
          · rw [if_pos c5] at H
            have c5b0 := eq_true c5
            have c5b1 : decide (0 ≤ x4_1) = true := decide_eq_true c5
            clear c5
            obtain ⟨ji6, hji6⟩ : ∃ j_ : Int, (shr .i64 a0 x4_1) = j_ := ⟨_, rfl⟩
            replace H : (trustquorumref01_Size.l0 k1 a0 (wrap64 (x3_1 + (Go.bits .and .i64 (ji6) 1))) (wrap64 (x4_1 + 1))) = some r := by first | (rw [hji6] at H; exact H) | (simp only [hji6] at H ⊢; exact H)
            (try rw [hji6] at A3)
            have hji6_ : (a0 / 2 ^ min x4_1.toNat 64) = ji6 := hji6
            have hji6z : x4_1 ≤ 64 → (a0 / 2 ^ x4_1.toNat) = ji6 := shr_small hji6
            have H' := Aside0.mk H
            clear H
            go_wp2_with (first | (go_at_call 26; (with_reducible refine (trustquorumref01_Valid.calls a0 true _ A3.out).mono ?_); rintro e w' ⟨rfl, ⟨nd, rfl⟩⟩))
            go_roundg k1
            case measure => have := HK1.out; omega
            case rel => exact ⟨(wrap64 (x3_1 + (Go.bits .and .i64 (ji6) 1))), (wrap64 (x4_1 + 1)), (by first | rfl | (simp; done) | (simp only [← hji6] <;> (first | rfl | simp)) | (simp [*]; done)), (by first | rfl | (simp; done) | (simp [*]; done)), H', ⟨by have := HK1.out; omega⟩, by repeat (first | exact Drawn0.refl _ | apply Drawn0.step)⟩
          · rw [if_neg c5] at H
            exact absurd H (by simp)
        · replace c4 := Bool.eq_false_iff.mpr c4
          subst c4
          have H1 : (some x3_1) = some r := by rw [if_neg (show ¬ (false = true) by decide)] at H; exact H
          clear H
          have H := H1
          clear H1
          obtain rfl := Option.some.inj H
          go_wp2_with (first | (go_at_call 26; (with_reducible refine (trustquorumref01_Valid.calls a0 false _ A3.out).mono ?_); rintro e w' ⟨rfl, ⟨nd, rfl⟩⟩))
          go_ret
          exact ⟨by first | rfl | (simp; done) | (simp [*]; done), by repeat (first | exact Drawn0.refl _ | apply Drawn0.step)⟩
      · rw [if_neg c2] at H
        have c2b0 : decide (x4_1 < 10) = false := decide_eq_false c2
        clear c2
        obtain rfl := Option.some.inj H
        go_wp2
        go_ret
        exact ⟨by first | rfl | (simp; done) | (simp [*]; done), by repeat (first | exact Drawn0.refl _ | apply Drawn0.step)⟩

end Go.Proofs.Ytfkpimjiaijmgaa.G
