/- SlicesEquivalent: the texts of the claim, put together (part 6 of 7). The law is proved in the last one: it takes no condition beyond the statement's own. -/
import Derived.Test.YtfkpimjiaijmgaaCSlicesEquivalent4
section
namespace Go.Proofs.Ytfkpimjiaijmgaa.G
open Go.RowKit Go.Proofs.YtfkpimjiaijmgaaW.PrintWords Go.Proofs.YtfkpimjiaijmgaaW.PrintLast Go.Proofs.YtfkpimjiaijmgaaW.PrintMore
attribute [local go_sem] max2_int min2_int max_two min_two max_three min_three max_four min_four   -- for this text's walks alone
set_option linter.unusedVariables false
set_option linter.unusedSimpArgs false
mutual
def trustquorumlaw05_SlicesEquivalent.j0 : Nat → Bool → Int → Bool → Int → Bool → Int → Bool → Int → List Int → List (S27) → Int → List Int → List (S27) → Option (Bool)
 | 0, _, _, _, _, _, _, _, _, _, _, _, _, _ => none
 | k + 1, x11, x12, x14, x15, x17, x18, x113, x458000, x458001, x458002, x459000, x459001, x459002 => if x113 = true then (some false) else (if x14 = true then (if x17 = true then (trustquorumlaw05_SlicesEquivalent.j1 k x11 x12 false x458000 x458001 x458002 x459000 x459001 x459002) else ((trustquorumref02_Satisfied.f k x459000 x459001 x459002 x18).bind fun t490 => (if t490 = true then ((trustquorumref02_Satisfied.f k x458000 x458001 x458002 x18).bind fun t491 => (trustquorumlaw05_SlicesEquivalent.j1 k x11 x12 t491 x458000 x458001 x458002 x459000 x459001 x459002)) else (trustquorumlaw05_SlicesEquivalent.j1 k x11 x12 true x458000 x458001 x458002 x459000 x459001 x459002)))) else ((trustquorumref02_Satisfied.f k x458000 x458001 x458002 x15).bind fun t492 => (if t492 = true then ((trustquorumref02_Satisfied.f k x459000 x459001 x459002 x15).bind fun t493 => (if t493 = true then (trustquorumlaw05_SlicesEquivalent.j1 k x11 x12 true x458000 x458001 x458002 x459000 x459001 x459002) else (if x17 = true then (trustquorumlaw05_SlicesEquivalent.j1 k x11 x12 false x458000 x458001 x458002 x459000 x459001 x459002) else ((trustquorumref02_Satisfied.f k x459000 x459001 x459002 x18).bind fun t494 => (if t494 = true then ((trustquorumref02_Satisfied.f k x458000 x458001 x458002 x18).bind fun t495 => (trustquorumlaw05_SlicesEquivalent.j1 k x11 x12 t495 x458000 x458001 x458002 x459000 x459001 x459002)) else (trustquorumlaw05_SlicesEquivalent.j1 k x11 x12 true x458000 x458001 x458002 x459000 x459001 x459002)))))) else (trustquorumlaw05_SlicesEquivalent.j1 k x11 x12 true x458000 x458001 x458002 x459000 x459001 x459002))))
def trustquorumlaw05_SlicesEquivalent.j1 : Nat → Bool → Int → Bool → Int → List Int → List (S27) → Int → List Int → List (S27) → Option (Bool)
 | 0, _, _, _, _, _, _, _, _, _ => none
 | k + 1, x11, x12, x141, x458000, x458001, x458002, x459000, x459001, x459002 => if x141 = true then (some false) else ((trustquorumref02_Satisfied.f k x458000 x458001 x458002 x12).bind fun t496 => ((trustquorumref02_Satisfied.f k x459000 x459001 x459002 x12).bind fun t497 => (if (x11 == (t496 == t497)) = true then ((trustquorumlaw05_awake.f).bind fun t498 => (some t498)) else (some false))))
end
def trustquorumlaw05_SlicesEquivalent.f (k : Nat) (l0 : List Int) : Option (Bool) := (trustquorummake_New.f l0).bind fun bt438 => ((trustquorummake_Trust.f k bt438.1 bt438.2 3 2).bind fun bt441 => ((trustquorummake_Trust.f k bt438.1 bt441.2.2.2 3 2).bind fun bt449 => ((trustquorumref04_Normal.f k bt441.1 bt441.2.1 bt441.2.2.1).bind fun bt459 => ((slices_Equivalent.f k bt441.1 bt441.2.1 bt441.2.2.1 bt459.1 bt459.2.1 bt459.2.2.1).bind fun bt468 => ((slices_Equivalent.f k bt441.1 bt441.2.1 bt441.2.2.1 bt449.1 bt449.2.1 bt449.2.2.1).bind fun bt471 => ((slices_Implies.f k bt441.1 bt441.2.1 bt441.2.2.1 bt449.1 bt449.2.1 bt449.2.2.1).bind fun bt474 => ((slices_Implies.f k bt449.1 bt449.2.1 bt449.2.2.1 bt441.1 bt441.2.1 bt441.2.2.1).bind fun bt477 => ((slices_Slices.f k bt441.1 bt441.2.1 bt441.2.2.1).bind fun bt480 => ((slices_Slices.f k bt449.1 bt449.2.1 bt449.2.2.1).bind fun bt484 => (if bt468.2.2 = 0 then (if bt471.2.2 = 0 then (if bt474.2.2 = 0 then (if bt477.2.2 = 0 then (if bt480.2 = 0 then (if bt484.2 = 0 then (if bt468.1 = true then (if bt474.1 = true then (if (bt471.1 != bt477.1) = true then (trustquorumlaw05_SlicesEquivalent.j0 k bt471.1 bt471.2.1 bt474.1 bt474.2.1 bt477.1 bt477.2.1 true bt441.1 bt441.2.1 bt441.2.2.1 bt449.1 bt449.2.1 bt449.2.2.1) else ((trustquorummake_Ints.f k bt480.1 bt484.1).bind fun t488 => (trustquorumlaw05_SlicesEquivalent.j0 k bt471.1 bt471.2.1 bt474.1 bt474.2.1 bt477.1 bt477.2.1 (bt471.1 != t488) bt441.1 bt441.2.1 bt441.2.2.1 bt449.1 bt449.2.1 bt449.2.2.1))) else (if (bt471.1 != false) = true then (trustquorumlaw05_SlicesEquivalent.j0 k bt471.1 bt471.2.1 bt474.1 bt474.2.1 bt477.1 bt477.2.1 true bt441.1 bt441.2.1 bt441.2.2.1 bt449.1 bt449.2.1 bt449.2.2.1) else ((trustquorummake_Ints.f k bt480.1 bt484.1).bind fun t489 => (trustquorumlaw05_SlicesEquivalent.j0 k bt471.1 bt471.2.1 bt474.1 bt474.2.1 bt477.1 bt477.2.1 (bt471.1 != t489) bt441.1 bt441.2.1 bt441.2.2.1 bt449.1 bt449.2.1 bt449.2.2.1)))) else (trustquorumlaw05_SlicesEquivalent.j0 k bt471.1 bt471.2.1 bt474.1 bt474.2.1 bt477.1 bt477.2.1 true bt441.1 bt441.2.1 bt441.2.2.1 bt449.1 bt449.2.1 bt449.2.2.1)) else (trustquorumlaw05_SlicesEquivalent.j0 k bt471.1 bt471.2.1 bt474.1 bt474.2.1 bt477.1 bt477.2.1 true bt441.1 bt441.2.1 bt441.2.2.1 bt449.1 bt449.2.1 bt449.2.2.1)) else (trustquorumlaw05_SlicesEquivalent.j0 k bt471.1 bt471.2.1 bt474.1 bt474.2.1 bt477.1 bt477.2.1 true bt441.1 bt441.2.1 bt441.2.2.1 bt449.1 bt449.2.1 bt449.2.2.1)) else (trustquorumlaw05_SlicesEquivalent.j0 k bt471.1 bt471.2.1 bt474.1 bt474.2.1 bt477.1 bt477.2.1 true bt441.1 bt441.2.1 bt441.2.2.1 bt449.1 bt449.2.1 bt449.2.2.1)) else (trustquorumlaw05_SlicesEquivalent.j0 k bt471.1 bt471.2.1 bt474.1 bt474.2.1 bt477.1 bt477.2.1 true bt441.1 bt441.2.1 bt441.2.2.1 bt449.1 bt449.2.1 bt449.2.2.1)) else (trustquorumlaw05_SlicesEquivalent.j0 k bt471.1 bt471.2.1 bt474.1 bt474.2.1 bt477.1 bt477.2.1 true bt441.1 bt441.2.1 bt441.2.2.1 bt449.1 bt449.2.1 bt449.2.2.1)) else (trustquorumlaw05_SlicesEquivalent.j0 k bt471.1 bt471.2.1 bt474.1 bt474.2.1 bt477.1 bt477.2.1 true bt441.1 bt441.2.1 bt441.2.2.1 bt449.1 bt449.2.1 bt449.2.2.1)))))))))))
def trustquorumlaw05_SlicesEquivalent.T14 : Bool × List (List Nat × List Nat) := (true, [([], []), ([], []), ([], []), ([1, 2], [1, 2]), ([], []), ([], []), ([4, 5, 3], [4, 5]), ([3, 6], [3, 6]), ([0, 7], [0, 7]), ([8, 6], [8]), ([9, 9], [9]), ([9, 10], [9, 10]), ([11, 10, 0, 1, 2, 3, 4, 5, 6, 7, 8, 9, 10, 11], [11])])
def trustquorumlaw05_SlicesEquivalent.B14 : List Nat := [0, 0, 0, 6, 0, 0, 62, 126, 255, 511, 1023, 2047, 4095]
theorem trustquorumlaw05_SlicesEquivalent.tab14 : rtab .any (opsOf Try.f5 14) = trustquorumlaw05_SlicesEquivalent.T14 := by kernel_rfl
theorem trustquorumlaw05_SlicesEquivalent.bits14 : waitsOk trustquorumlaw05_SlicesEquivalent.T14.2 trustquorumlaw05_SlicesEquivalent.B14 = true := by kernel_rfl
set_option maxHeartbeats 8000000 in
set_option maxRecDepth 100000 in
theorem trustquorumlaw05_SlicesEquivalent.calls (k : Nat) (A0 : Option Addr) (c0 : Nat) (l0 : List Int) (r : Bool) (w : World) (hr0 : Kd.C (Kd.int .i64) w A0 l0.length l0) (hc0 : l0.length ≤ c0) (h : trustquorumlaw05_SlicesEquivalent.f k l0 = some r) :
 Calls Try.prog 5 #[.slice A0 l0.length c0] w fun e w' => e = .returned (.bool r) ∧ Below w.heap.size w w' := by
 have hu27 := Try.underlying27
 have HR0 := Aside0.mk hr0
 have HC0 := Aside0.mk hc0
 clear hr0 hc0
 have HB := Aside0.mk (Below.refl w.heap.size w)
 have H : ((trustquorummake_New.f l0).bind fun bt438 => ((trustquorummake_Trust.f k bt438.1 bt438.2 3 2).bind fun bt441 => ((trustquorummake_Trust.f k bt438.1 bt441.2.2.2 3 2).bind fun bt449 => ((trustquorumref04_Normal.f k bt441.1 bt441.2.1 bt441.2.2.1).bind fun bt459 => ((slices_Equivalent.f k bt441.1 bt441.2.1 bt441.2.2.1 bt459.1 bt459.2.1 bt459.2.2.1).bind fun bt468 => ((slices_Equivalent.f k bt441.1 bt441.2.1 bt441.2.2.1 bt449.1 bt449.2.1 bt449.2.2.1).bind fun bt471 => ((slices_Implies.f k bt441.1 bt441.2.1 bt441.2.2.1 bt449.1 bt449.2.1 bt449.2.2.1).bind fun bt474 => ((slices_Implies.f k bt449.1 bt449.2.1 bt449.2.2.1 bt441.1 bt441.2.1 bt441.2.2.1).bind fun bt477 => ((slices_Slices.f k bt441.1 bt441.2.1 bt441.2.2.1).bind fun bt480 => ((slices_Slices.f k bt449.1 bt449.2.1 bt449.2.2.1).bind fun bt484 => (if bt468.2.2 = 0 then (if bt471.2.2 = 0 then (if bt474.2.2 = 0 then (if bt477.2.2 = 0 then (if bt480.2 = 0 then (if bt484.2 = 0 then (if bt468.1 = true then (if bt474.1 = true then (if (bt471.1 != bt477.1) = true then (trustquorumlaw05_SlicesEquivalent.j0 k bt471.1 bt471.2.1 bt474.1 bt474.2.1 bt477.1 bt477.2.1 true bt441.1 bt441.2.1 bt441.2.2.1 bt449.1 bt449.2.1 bt449.2.2.1) else ((trustquorummake_Ints.f k bt480.1 bt484.1).bind fun t488 => (trustquorumlaw05_SlicesEquivalent.j0 k bt471.1 bt471.2.1 bt474.1 bt474.2.1 bt477.1 bt477.2.1 (bt471.1 != t488) bt441.1 bt441.2.1 bt441.2.2.1 bt449.1 bt449.2.1 bt449.2.2.1))) else (if (bt471.1 != false) = true then (trustquorumlaw05_SlicesEquivalent.j0 k bt471.1 bt471.2.1 bt474.1 bt474.2.1 bt477.1 bt477.2.1 true bt441.1 bt441.2.1 bt441.2.2.1 bt449.1 bt449.2.1 bt449.2.2.1) else ((trustquorummake_Ints.f k bt480.1 bt484.1).bind fun t489 => (trustquorumlaw05_SlicesEquivalent.j0 k bt471.1 bt471.2.1 bt474.1 bt474.2.1 bt477.1 bt477.2.1 (bt471.1 != t489) bt441.1 bt441.2.1 bt441.2.2.1 bt449.1 bt449.2.1 bt449.2.2.1)))) else (trustquorumlaw05_SlicesEquivalent.j0 k bt471.1 bt471.2.1 bt474.1 bt474.2.1 bt477.1 bt477.2.1 true bt441.1 bt441.2.1 bt441.2.2.1 bt449.1 bt449.2.1 bt449.2.2.1)) else (trustquorumlaw05_SlicesEquivalent.j0 k bt471.1 bt471.2.1 bt474.1 bt474.2.1 bt477.1 bt477.2.1 true bt441.1 bt441.2.1 bt441.2.2.1 bt449.1 bt449.2.1 bt449.2.2.1)) else (trustquorumlaw05_SlicesEquivalent.j0 k bt471.1 bt471.2.1 bt474.1 bt474.2.1 bt477.1 bt477.2.1 true bt441.1 bt441.2.1 bt441.2.2.1 bt449.1 bt449.2.1 bt449.2.2.1)) else (trustquorumlaw05_SlicesEquivalent.j0 k bt471.1 bt471.2.1 bt474.1 bt474.2.1 bt477.1 bt477.2.1 true bt441.1 bt441.2.1 bt441.2.2.1 bt449.1 bt449.2.1 bt449.2.2.1)) else (trustquorumlaw05_SlicesEquivalent.j0 k bt471.1 bt471.2.1 bt474.1 bt474.2.1 bt477.1 bt477.2.1 true bt441.1 bt441.2.1 bt441.2.2.1 bt449.1 bt449.2.1 bt449.2.2.1)) else (trustquorumlaw05_SlicesEquivalent.j0 k bt471.1 bt471.2.1 bt474.1 bt474.2.1 bt477.1 bt477.2.1 true bt441.1 bt441.2.1 bt441.2.2.1 bt449.1 bt449.2.1 bt449.2.2.1)) else (trustquorumlaw05_SlicesEquivalent.j0 k bt471.1 bt471.2.1 bt474.1 bt474.2.1 bt477.1 bt477.2.1 true bt441.1 bt441.2.1 bt441.2.2.1 bt449.1 bt449.2.1 bt449.2.2.1)))))))))))) = some r := h
 clear h
 replace H := Option.bind_eq_some_iff.mp H
 obtain ⟨⟨t438, t439⟩, A20, H⟩ := H
 replace H : ((trustquorummake_Trust.f k t438 t439 3 2).bind fun bt441 => ((trustquorummake_Trust.f k t438 bt441.2.2.2 3 2).bind fun bt449 => ((trustquorumref04_Normal.f k bt441.1 bt441.2.1 bt441.2.2.1).bind fun bt459 => ((slices_Equivalent.f k bt441.1 bt441.2.1 bt441.2.2.1 bt459.1 bt459.2.1 bt459.2.2.1).bind fun bt468 => ((slices_Equivalent.f k bt441.1 bt441.2.1 bt441.2.2.1 bt449.1 bt449.2.1 bt449.2.2.1).bind fun bt471 => ((slices_Implies.f k bt441.1 bt441.2.1 bt441.2.2.1 bt449.1 bt449.2.1 bt449.2.2.1).bind fun bt474 => ((slices_Implies.f k bt449.1 bt449.2.1 bt449.2.2.1 bt441.1 bt441.2.1 bt441.2.2.1).bind fun bt477 => ((slices_Slices.f k bt441.1 bt441.2.1 bt441.2.2.1).bind fun bt480 => ((slices_Slices.f k bt449.1 bt449.2.1 bt449.2.2.1).bind fun bt484 => (if bt468.2.2 = 0 then (if bt471.2.2 = 0 then (if bt474.2.2 = 0 then (if bt477.2.2 = 0 then (if bt480.2 = 0 then (if bt484.2 = 0 then (if bt468.1 = true then (if bt474.1 = true then (if (bt471.1 != bt477.1) = true then (trustquorumlaw05_SlicesEquivalent.j0 k bt471.1 bt471.2.1 bt474.1 bt474.2.1 bt477.1 bt477.2.1 true bt441.1 bt441.2.1 bt441.2.2.1 bt449.1 bt449.2.1 bt449.2.2.1) else ((trustquorummake_Ints.f k bt480.1 bt484.1).bind fun t488 => (trustquorumlaw05_SlicesEquivalent.j0 k bt471.1 bt471.2.1 bt474.1 bt474.2.1 bt477.1 bt477.2.1 (bt471.1 != t488) bt441.1 bt441.2.1 bt441.2.2.1 bt449.1 bt449.2.1 bt449.2.2.1))) else (if (bt471.1 != false) = true then (trustquorumlaw05_SlicesEquivalent.j0 k bt471.1 bt471.2.1 bt474.1 bt474.2.1 bt477.1 bt477.2.1 true bt441.1 bt441.2.1 bt441.2.2.1 bt449.1 bt449.2.1 bt449.2.2.1) else ((trustquorummake_Ints.f k bt480.1 bt484.1).bind fun t489 => (trustquorumlaw05_SlicesEquivalent.j0 k bt471.1 bt471.2.1 bt474.1 bt474.2.1 bt477.1 bt477.2.1 (bt471.1 != t489) bt441.1 bt441.2.1 bt441.2.2.1 bt449.1 bt449.2.1 bt449.2.2.1)))) else (trustquorumlaw05_SlicesEquivalent.j0 k bt471.1 bt471.2.1 bt474.1 bt474.2.1 bt477.1 bt477.2.1 true bt441.1 bt441.2.1 bt441.2.2.1 bt449.1 bt449.2.1 bt449.2.2.1)) else (trustquorumlaw05_SlicesEquivalent.j0 k bt471.1 bt471.2.1 bt474.1 bt474.2.1 bt477.1 bt477.2.1 true bt441.1 bt441.2.1 bt441.2.2.1 bt449.1 bt449.2.1 bt449.2.2.1)) else (trustquorumlaw05_SlicesEquivalent.j0 k bt471.1 bt471.2.1 bt474.1 bt474.2.1 bt477.1 bt477.2.1 true bt441.1 bt441.2.1 bt441.2.2.1 bt449.1 bt449.2.1 bt449.2.2.1)) else (trustquorumlaw05_SlicesEquivalent.j0 k bt471.1 bt471.2.1 bt474.1 bt474.2.1 bt477.1 bt477.2.1 true bt441.1 bt441.2.1 bt441.2.2.1 bt449.1 bt449.2.1 bt449.2.2.1)) else (trustquorumlaw05_SlicesEquivalent.j0 k bt471.1 bt471.2.1 bt474.1 bt474.2.1 bt477.1 bt477.2.1 true bt441.1 bt441.2.1 bt441.2.2.1 bt449.1 bt449.2.1 bt449.2.2.1)) else (trustquorumlaw05_SlicesEquivalent.j0 k bt471.1 bt471.2.1 bt474.1 bt474.2.1 bt477.1 bt477.2.1 true bt441.1 bt441.2.1 bt441.2.2.1 bt449.1 bt449.2.1 bt449.2.2.1)) else (trustquorumlaw05_SlicesEquivalent.j0 k bt471.1 bt471.2.1 bt474.1 bt474.2.1 bt477.1 bt477.2.1 true bt441.1 bt441.2.1 bt441.2.2.1 bt449.1 bt449.2.1 bt449.2.2.1))))))))))) = some r := H
 have A2 := Aside0.mk A20
 clear A20
 replace H := Option.bind_eq_some_iff.mp H
 obtain ⟨⟨t441, t442, t445, t448⟩, A30, H⟩ := H
 replace H : ((trustquorummake_Trust.f k t438 t448 3 2).bind fun bt449 => ((trustquorumref04_Normal.f k t441 t442 t445).bind fun bt459 => ((slices_Equivalent.f k t441 t442 t445 bt459.1 bt459.2.1 bt459.2.2.1).bind fun bt468 => ((slices_Equivalent.f k t441 t442 t445 bt449.1 bt449.2.1 bt449.2.2.1).bind fun bt471 => ((slices_Implies.f k t441 t442 t445 bt449.1 bt449.2.1 bt449.2.2.1).bind fun bt474 => ((slices_Implies.f k bt449.1 bt449.2.1 bt449.2.2.1 t441 t442 t445).bind fun bt477 => ((slices_Slices.f k t441 t442 t445).bind fun bt480 => ((slices_Slices.f k bt449.1 bt449.2.1 bt449.2.2.1).bind fun bt484 => (if bt468.2.2 = 0 then (if bt471.2.2 = 0 then (if bt474.2.2 = 0 then (if bt477.2.2 = 0 then (if bt480.2 = 0 then (if bt484.2 = 0 then (if bt468.1 = true then (if bt474.1 = true then (if (bt471.1 != bt477.1) = true then (trustquorumlaw05_SlicesEquivalent.j0 k bt471.1 bt471.2.1 bt474.1 bt474.2.1 bt477.1 bt477.2.1 true t441 t442 t445 bt449.1 bt449.2.1 bt449.2.2.1) else ((trustquorummake_Ints.f k bt480.1 bt484.1).bind fun t488 => (trustquorumlaw05_SlicesEquivalent.j0 k bt471.1 bt471.2.1 bt474.1 bt474.2.1 bt477.1 bt477.2.1 (bt471.1 != t488) t441 t442 t445 bt449.1 bt449.2.1 bt449.2.2.1))) else (if (bt471.1 != false) = true then (trustquorumlaw05_SlicesEquivalent.j0 k bt471.1 bt471.2.1 bt474.1 bt474.2.1 bt477.1 bt477.2.1 true t441 t442 t445 bt449.1 bt449.2.1 bt449.2.2.1) else ((trustquorummake_Ints.f k bt480.1 bt484.1).bind fun t489 => (trustquorumlaw05_SlicesEquivalent.j0 k bt471.1 bt471.2.1 bt474.1 bt474.2.1 bt477.1 bt477.2.1 (bt471.1 != t489) t441 t442 t445 bt449.1 bt449.2.1 bt449.2.2.1)))) else (trustquorumlaw05_SlicesEquivalent.j0 k bt471.1 bt471.2.1 bt474.1 bt474.2.1 bt477.1 bt477.2.1 true t441 t442 t445 bt449.1 bt449.2.1 bt449.2.2.1)) else (trustquorumlaw05_SlicesEquivalent.j0 k bt471.1 bt471.2.1 bt474.1 bt474.2.1 bt477.1 bt477.2.1 true t441 t442 t445 bt449.1 bt449.2.1 bt449.2.2.1)) else (trustquorumlaw05_SlicesEquivalent.j0 k bt471.1 bt471.2.1 bt474.1 bt474.2.1 bt477.1 bt477.2.1 true t441 t442 t445 bt449.1 bt449.2.1 bt449.2.2.1)) else (trustquorumlaw05_SlicesEquivalent.j0 k bt471.1 bt471.2.1 bt474.1 bt474.2.1 bt477.1 bt477.2.1 true t441 t442 t445 bt449.1 bt449.2.1 bt449.2.2.1)) else (trustquorumlaw05_SlicesEquivalent.j0 k bt471.1 bt471.2.1 bt474.1 bt474.2.1 bt477.1 bt477.2.1 true t441 t442 t445 bt449.1 bt449.2.1 bt449.2.2.1)) else (trustquorumlaw05_SlicesEquivalent.j0 k bt471.1 bt471.2.1 bt474.1 bt474.2.1 bt477.1 bt477.2.1 true t441 t442 t445 bt449.1 bt449.2.1 bt449.2.2.1)) else (trustquorumlaw05_SlicesEquivalent.j0 k bt471.1 bt471.2.1 bt474.1 bt474.2.1 bt477.1 bt477.2.1 true t441 t442 t445 bt449.1 bt449.2.1 bt449.2.2.1)))))))))) = some r := H
 have A3 := Aside0.mk A30
 clear A30
 replace H := Option.bind_eq_some_iff.mp H
 obtain ⟨⟨t449, t450, t453, t456⟩, A40, H⟩ := H
 replace H : ((trustquorumref04_Normal.f k t441 t442 t445).bind fun bt459 => ((slices_Equivalent.f k t441 t442 t445 bt459.1 bt459.2.1 bt459.2.2.1).bind fun bt468 => ((slices_Equivalent.f k t441 t442 t445 t449 t450 t453).bind fun bt471 => ((slices_Implies.f k t441 t442 t445 t449 t450 t453).bind fun bt474 => ((slices_Implies.f k t449 t450 t453 t441 t442 t445).bind fun bt477 => ((slices_Slices.f k t441 t442 t445).bind fun bt480 => ((slices_Slices.f k t449 t450 t453).bind fun bt484 => (if bt468.2.2 = 0 then (if bt471.2.2 = 0 then (if bt474.2.2 = 0 then (if bt477.2.2 = 0 then (if bt480.2 = 0 then (if bt484.2 = 0 then (if bt468.1 = true then (if bt474.1 = true then (if (bt471.1 != bt477.1) = true then (trustquorumlaw05_SlicesEquivalent.j0 k bt471.1 bt471.2.1 bt474.1 bt474.2.1 bt477.1 bt477.2.1 true t441 t442 t445 t449 t450 t453) else ((trustquorummake_Ints.f k bt480.1 bt484.1).bind fun t488 => (trustquorumlaw05_SlicesEquivalent.j0 k bt471.1 bt471.2.1 bt474.1 bt474.2.1 bt477.1 bt477.2.1 (bt471.1 != t488) t441 t442 t445 t449 t450 t453))) else (if (bt471.1 != false) = true then (trustquorumlaw05_SlicesEquivalent.j0 k bt471.1 bt471.2.1 bt474.1 bt474.2.1 bt477.1 bt477.2.1 true t441 t442 t445 t449 t450 t453) else ((trustquorummake_Ints.f k bt480.1 bt484.1).bind fun t489 => (trustquorumlaw05_SlicesEquivalent.j0 k bt471.1 bt471.2.1 bt474.1 bt474.2.1 bt477.1 bt477.2.1 (bt471.1 != t489) t441 t442 t445 t449 t450 t453)))) else (trustquorumlaw05_SlicesEquivalent.j0 k bt471.1 bt471.2.1 bt474.1 bt474.2.1 bt477.1 bt477.2.1 true t441 t442 t445 t449 t450 t453)) else (trustquorumlaw05_SlicesEquivalent.j0 k bt471.1 bt471.2.1 bt474.1 bt474.2.1 bt477.1 bt477.2.1 true t441 t442 t445 t449 t450 t453)) else (trustquorumlaw05_SlicesEquivalent.j0 k bt471.1 bt471.2.1 bt474.1 bt474.2.1 bt477.1 bt477.2.1 true t441 t442 t445 t449 t450 t453)) else (trustquorumlaw05_SlicesEquivalent.j0 k bt471.1 bt471.2.1 bt474.1 bt474.2.1 bt477.1 bt477.2.1 true t441 t442 t445 t449 t450 t453)) else (trustquorumlaw05_SlicesEquivalent.j0 k bt471.1 bt471.2.1 bt474.1 bt474.2.1 bt477.1 bt477.2.1 true t441 t442 t445 t449 t450 t453)) else (trustquorumlaw05_SlicesEquivalent.j0 k bt471.1 bt471.2.1 bt474.1 bt474.2.1 bt477.1 bt477.2.1 true t441 t442 t445 t449 t450 t453)) else (trustquorumlaw05_SlicesEquivalent.j0 k bt471.1 bt471.2.1 bt474.1 bt474.2.1 bt477.1 bt477.2.1 true t441 t442 t445 t449 t450 t453))))))))) = some r := H
 have A4 := Aside0.mk A40
 clear A40
 replace H := Option.bind_eq_some_iff.mp H
 obtain ⟨⟨t459, t460, t463, t466⟩, A50, H⟩ := H
 replace H : ((slices_Equivalent.f k t441 t442 t445 t459 t460 t463).bind fun bt468 => ((slices_Equivalent.f k t441 t442 t445 t449 t450 t453).bind fun bt471 => ((slices_Implies.f k t441 t442 t445 t449 t450 t453).bind fun bt474 => ((slices_Implies.f k t449 t450 t453 t441 t442 t445).bind fun bt477 => ((slices_Slices.f k t441 t442 t445).bind fun bt480 => ((slices_Slices.f k t449 t450 t453).bind fun bt484 => (if bt468.2.2 = 0 then (if bt471.2.2 = 0 then (if bt474.2.2 = 0 then (if bt477.2.2 = 0 then (if bt480.2 = 0 then (if bt484.2 = 0 then (if bt468.1 = true then (if bt474.1 = true then (if (bt471.1 != bt477.1) = true then (trustquorumlaw05_SlicesEquivalent.j0 k bt471.1 bt471.2.1 bt474.1 bt474.2.1 bt477.1 bt477.2.1 true t441 t442 t445 t449 t450 t453) else ((trustquorummake_Ints.f k bt480.1 bt484.1).bind fun t488 => (trustquorumlaw05_SlicesEquivalent.j0 k bt471.1 bt471.2.1 bt474.1 bt474.2.1 bt477.1 bt477.2.1 (bt471.1 != t488) t441 t442 t445 t449 t450 t453))) else (if (bt471.1 != false) = true then (trustquorumlaw05_SlicesEquivalent.j0 k bt471.1 bt471.2.1 bt474.1 bt474.2.1 bt477.1 bt477.2.1 true t441 t442 t445 t449 t450 t453) else ((trustquorummake_Ints.f k bt480.1 bt484.1).bind fun t489 => (trustquorumlaw05_SlicesEquivalent.j0 k bt471.1 bt471.2.1 bt474.1 bt474.2.1 bt477.1 bt477.2.1 (bt471.1 != t489) t441 t442 t445 t449 t450 t453)))) else (trustquorumlaw05_SlicesEquivalent.j0 k bt471.1 bt471.2.1 bt474.1 bt474.2.1 bt477.1 bt477.2.1 true t441 t442 t445 t449 t450 t453)) else (trustquorumlaw05_SlicesEquivalent.j0 k bt471.1 bt471.2.1 bt474.1 bt474.2.1 bt477.1 bt477.2.1 true t441 t442 t445 t449 t450 t453)) else (trustquorumlaw05_SlicesEquivalent.j0 k bt471.1 bt471.2.1 bt474.1 bt474.2.1 bt477.1 bt477.2.1 true t441 t442 t445 t449 t450 t453)) else (trustquorumlaw05_SlicesEquivalent.j0 k bt471.1 bt471.2.1 bt474.1 bt474.2.1 bt477.1 bt477.2.1 true t441 t442 t445 t449 t450 t453)) else (trustquorumlaw05_SlicesEquivalent.j0 k bt471.1 bt471.2.1 bt474.1 bt474.2.1 bt477.1 bt477.2.1 true t441 t442 t445 t449 t450 t453)) else (trustquorumlaw05_SlicesEquivalent.j0 k bt471.1 bt471.2.1 bt474.1 bt474.2.1 bt477.1 bt477.2.1 true t441 t442 t445 t449 t450 t453)) else (trustquorumlaw05_SlicesEquivalent.j0 k bt471.1 bt471.2.1 bt474.1 bt474.2.1 bt477.1 bt477.2.1 true t441 t442 t445 t449 t450 t453)))))))) = some r := H
 have A5 := Aside0.mk A50
 clear A50
 replace H := Option.bind_eq_some_iff.mp H
 obtain ⟨⟨t468, t469, t470⟩, A60, H⟩ := H
 replace H : ((slices_Equivalent.f k t441 t442 t445 t449 t450 t453).bind fun bt471 => ((slices_Implies.f k t441 t442 t445 t449 t450 t453).bind fun bt474 => ((slices_Implies.f k t449 t450 t453 t441 t442 t445).bind fun bt477 => ((slices_Slices.f k t441 t442 t445).bind fun bt480 => ((slices_Slices.f k t449 t450 t453).bind fun bt484 => (if t470 = 0 then (if bt471.2.2 = 0 then (if bt474.2.2 = 0 then (if bt477.2.2 = 0 then (if bt480.2 = 0 then (if bt484.2 = 0 then (if t468 = true then (if bt474.1 = true then (if (bt471.1 != bt477.1) = true then (trustquorumlaw05_SlicesEquivalent.j0 k bt471.1 bt471.2.1 bt474.1 bt474.2.1 bt477.1 bt477.2.1 true t441 t442 t445 t449 t450 t453) else ((trustquorummake_Ints.f k bt480.1 bt484.1).bind fun t488 => (trustquorumlaw05_SlicesEquivalent.j0 k bt471.1 bt471.2.1 bt474.1 bt474.2.1 bt477.1 bt477.2.1 (bt471.1 != t488) t441 t442 t445 t449 t450 t453))) else (if (bt471.1 != false) = true then (trustquorumlaw05_SlicesEquivalent.j0 k bt471.1 bt471.2.1 bt474.1 bt474.2.1 bt477.1 bt477.2.1 true t441 t442 t445 t449 t450 t453) else ((trustquorummake_Ints.f k bt480.1 bt484.1).bind fun t489 => (trustquorumlaw05_SlicesEquivalent.j0 k bt471.1 bt471.2.1 bt474.1 bt474.2.1 bt477.1 bt477.2.1 (bt471.1 != t489) t441 t442 t445 t449 t450 t453)))) else (trustquorumlaw05_SlicesEquivalent.j0 k bt471.1 bt471.2.1 bt474.1 bt474.2.1 bt477.1 bt477.2.1 true t441 t442 t445 t449 t450 t453)) else (trustquorumlaw05_SlicesEquivalent.j0 k bt471.1 bt471.2.1 bt474.1 bt474.2.1 bt477.1 bt477.2.1 true t441 t442 t445 t449 t450 t453)) else (trustquorumlaw05_SlicesEquivalent.j0 k bt471.1 bt471.2.1 bt474.1 bt474.2.1 bt477.1 bt477.2.1 true t441 t442 t445 t449 t450 t453)) else (trustquorumlaw05_SlicesEquivalent.j0 k bt471.1 bt471.2.1 bt474.1 bt474.2.1 bt477.1 bt477.2.1 true t441 t442 t445 t449 t450 t453)) else (trustquorumlaw05_SlicesEquivalent.j0 k bt471.1 bt471.2.1 bt474.1 bt474.2.1 bt477.1 bt477.2.1 true t441 t442 t445 t449 t450 t453)) else (trustquorumlaw05_SlicesEquivalent.j0 k bt471.1 bt471.2.1 bt474.1 bt474.2.1 bt477.1 bt477.2.1 true t441 t442 t445 t449 t450 t453)) else (trustquorumlaw05_SlicesEquivalent.j0 k bt471.1 bt471.2.1 bt474.1 bt474.2.1 bt477.1 bt477.2.1 true t441 t442 t445 t449 t450 t453))))))) = some r := H
 have A6 := Aside0.mk A60
 clear A60
 replace H := Option.bind_eq_some_iff.mp H
 obtain ⟨⟨t471, t472, t473⟩, A70, H⟩ := H
 replace H : ((slices_Implies.f k t441 t442 t445 t449 t450 t453).bind fun bt474 => ((slices_Implies.f k t449 t450 t453 t441 t442 t445).bind fun bt477 => ((slices_Slices.f k t441 t442 t445).bind fun bt480 => ((slices_Slices.f k t449 t450 t453).bind fun bt484 => (if t470 = 0 then (if t473 = 0 then (if bt474.2.2 = 0 then (if bt477.2.2 = 0 then (if bt480.2 = 0 then (if bt484.2 = 0 then (if t468 = true then (if bt474.1 = true then (if (t471 != bt477.1) = true then (trustquorumlaw05_SlicesEquivalent.j0 k t471 t472 bt474.1 bt474.2.1 bt477.1 bt477.2.1 true t441 t442 t445 t449 t450 t453) else ((trustquorummake_Ints.f k bt480.1 bt484.1).bind fun t488 => (trustquorumlaw05_SlicesEquivalent.j0 k t471 t472 bt474.1 bt474.2.1 bt477.1 bt477.2.1 (t471 != t488) t441 t442 t445 t449 t450 t453))) else (if (t471 != false) = true then (trustquorumlaw05_SlicesEquivalent.j0 k t471 t472 bt474.1 bt474.2.1 bt477.1 bt477.2.1 true t441 t442 t445 t449 t450 t453) else ((trustquorummake_Ints.f k bt480.1 bt484.1).bind fun t489 => (trustquorumlaw05_SlicesEquivalent.j0 k t471 t472 bt474.1 bt474.2.1 bt477.1 bt477.2.1 (t471 != t489) t441 t442 t445 t449 t450 t453)))) else (trustquorumlaw05_SlicesEquivalent.j0 k t471 t472 bt474.1 bt474.2.1 bt477.1 bt477.2.1 true t441 t442 t445 t449 t450 t453)) else (trustquorumlaw05_SlicesEquivalent.j0 k t471 t472 bt474.1 bt474.2.1 bt477.1 bt477.2.1 true t441 t442 t445 t449 t450 t453)) else (trustquorumlaw05_SlicesEquivalent.j0 k t471 t472 bt474.1 bt474.2.1 bt477.1 bt477.2.1 true t441 t442 t445 t449 t450 t453)) else (trustquorumlaw05_SlicesEquivalent.j0 k t471 t472 bt474.1 bt474.2.1 bt477.1 bt477.2.1 true t441 t442 t445 t449 t450 t453)) else (trustquorumlaw05_SlicesEquivalent.j0 k t471 t472 bt474.1 bt474.2.1 bt477.1 bt477.2.1 true t441 t442 t445 t449 t450 t453)) else (trustquorumlaw05_SlicesEquivalent.j0 k t471 t472 bt474.1 bt474.2.1 bt477.1 bt477.2.1 true t441 t442 t445 t449 t450 t453)) else (trustquorumlaw05_SlicesEquivalent.j0 k t471 t472 bt474.1 bt474.2.1 bt477.1 bt477.2.1 true t441 t442 t445 t449 t450 t453)))))) = some r := H
 have A7 := Aside0.mk A70
 clear A70
 replace H := Option.bind_eq_some_iff.mp H
 obtain ⟨⟨t474, t475, t476⟩, A80, H⟩ := H
 replace H : ((slices_Implies.f k t449 t450 t453 t441 t442 t445).bind fun bt477 => ((slices_Slices.f k t441 t442 t445).bind fun bt480 => ((slices_Slices.f k t449 t450 t453).bind fun bt484 => (if t470 = 0 then (if t473 = 0 then (if t476 = 0 then (if bt477.2.2 = 0 then (if bt480.2 = 0 then (if bt484.2 = 0 then (if t468 = true then (if t474 = true then (if (t471 != bt477.1) = true then (trustquorumlaw05_SlicesEquivalent.j0 k t471 t472 t474 t475 bt477.1 bt477.2.1 true t441 t442 t445 t449 t450 t453) else ((trustquorummake_Ints.f k bt480.1 bt484.1).bind fun t488 => (trustquorumlaw05_SlicesEquivalent.j0 k t471 t472 t474 t475 bt477.1 bt477.2.1 (t471 != t488) t441 t442 t445 t449 t450 t453))) else (if (t471 != false) = true then (trustquorumlaw05_SlicesEquivalent.j0 k t471 t472 t474 t475 bt477.1 bt477.2.1 true t441 t442 t445 t449 t450 t453) else ((trustquorummake_Ints.f k bt480.1 bt484.1).bind fun t489 => (trustquorumlaw05_SlicesEquivalent.j0 k t471 t472 t474 t475 bt477.1 bt477.2.1 (t471 != t489) t441 t442 t445 t449 t450 t453)))) else (trustquorumlaw05_SlicesEquivalent.j0 k t471 t472 t474 t475 bt477.1 bt477.2.1 true t441 t442 t445 t449 t450 t453)) else (trustquorumlaw05_SlicesEquivalent.j0 k t471 t472 t474 t475 bt477.1 bt477.2.1 true t441 t442 t445 t449 t450 t453)) else (trustquorumlaw05_SlicesEquivalent.j0 k t471 t472 t474 t475 bt477.1 bt477.2.1 true t441 t442 t445 t449 t450 t453)) else (trustquorumlaw05_SlicesEquivalent.j0 k t471 t472 t474 t475 bt477.1 bt477.2.1 true t441 t442 t445 t449 t450 t453)) else (trustquorumlaw05_SlicesEquivalent.j0 k t471 t472 t474 t475 bt477.1 bt477.2.1 true t441 t442 t445 t449 t450 t453)) else (trustquorumlaw05_SlicesEquivalent.j0 k t471 t472 t474 t475 bt477.1 bt477.2.1 true t441 t442 t445 t449 t450 t453)) else (trustquorumlaw05_SlicesEquivalent.j0 k t471 t472 t474 t475 bt477.1 bt477.2.1 true t441 t442 t445 t449 t450 t453))))) = some r := H
 have A8 := Aside0.mk A80
 clear A80
 replace H := Option.bind_eq_some_iff.mp H
 obtain ⟨⟨t477, t478, t479⟩, A90, H⟩ := H
 replace H : ((slices_Slices.f k t441 t442 t445).bind fun bt480 => ((slices_Slices.f k t449 t450 t453).bind fun bt484 => (if t470 = 0 then (if t473 = 0 then (if t476 = 0 then (if t479 = 0 then (if bt480.2 = 0 then (if bt484.2 = 0 then (if t468 = true then (if t474 = true then (if (t471 != t477) = true then (trustquorumlaw05_SlicesEquivalent.j0 k t471 t472 t474 t475 t477 t478 true t441 t442 t445 t449 t450 t453) else ((trustquorummake_Ints.f k bt480.1 bt484.1).bind fun t488 => (trustquorumlaw05_SlicesEquivalent.j0 k t471 t472 t474 t475 t477 t478 (t471 != t488) t441 t442 t445 t449 t450 t453))) else (if (t471 != false) = true then (trustquorumlaw05_SlicesEquivalent.j0 k t471 t472 t474 t475 t477 t478 true t441 t442 t445 t449 t450 t453) else ((trustquorummake_Ints.f k bt480.1 bt484.1).bind fun t489 => (trustquorumlaw05_SlicesEquivalent.j0 k t471 t472 t474 t475 t477 t478 (t471 != t489) t441 t442 t445 t449 t450 t453)))) else (trustquorumlaw05_SlicesEquivalent.j0 k t471 t472 t474 t475 t477 t478 true t441 t442 t445 t449 t450 t453)) else (trustquorumlaw05_SlicesEquivalent.j0 k t471 t472 t474 t475 t477 t478 true t441 t442 t445 t449 t450 t453)) else (trustquorumlaw05_SlicesEquivalent.j0 k t471 t472 t474 t475 t477 t478 true t441 t442 t445 t449 t450 t453)) else (trustquorumlaw05_SlicesEquivalent.j0 k t471 t472 t474 t475 t477 t478 true t441 t442 t445 t449 t450 t453)) else (trustquorumlaw05_SlicesEquivalent.j0 k t471 t472 t474 t475 t477 t478 true t441 t442 t445 t449 t450 t453)) else (trustquorumlaw05_SlicesEquivalent.j0 k t471 t472 t474 t475 t477 t478 true t441 t442 t445 t449 t450 t453)) else (trustquorumlaw05_SlicesEquivalent.j0 k t471 t472 t474 t475 t477 t478 true t441 t442 t445 t449 t450 t453)))) = some r := H
 have A9 := Aside0.mk A90
 clear A90
 replace H := Option.bind_eq_some_iff.mp H
 obtain ⟨⟨t480, t483⟩, A100, H⟩ := H
 replace H : ((slices_Slices.f k t449 t450 t453).bind fun bt484 => (if t470 = 0 then (if t473 = 0 then (if t476 = 0 then (if t479 = 0 then (if t483 = 0 then (if bt484.2 = 0 then (if t468 = true then (if t474 = true then (if (t471 != t477) = true then (trustquorumlaw05_SlicesEquivalent.j0 k t471 t472 t474 t475 t477 t478 true t441 t442 t445 t449 t450 t453) else ((trustquorummake_Ints.f k t480 bt484.1).bind fun t488 => (trustquorumlaw05_SlicesEquivalent.j0 k t471 t472 t474 t475 t477 t478 (t471 != t488) t441 t442 t445 t449 t450 t453))) else (if (t471 != false) = true then (trustquorumlaw05_SlicesEquivalent.j0 k t471 t472 t474 t475 t477 t478 true t441 t442 t445 t449 t450 t453) else ((trustquorummake_Ints.f k t480 bt484.1).bind fun t489 => (trustquorumlaw05_SlicesEquivalent.j0 k t471 t472 t474 t475 t477 t478 (t471 != t489) t441 t442 t445 t449 t450 t453)))) else (trustquorumlaw05_SlicesEquivalent.j0 k t471 t472 t474 t475 t477 t478 true t441 t442 t445 t449 t450 t453)) else (trustquorumlaw05_SlicesEquivalent.j0 k t471 t472 t474 t475 t477 t478 true t441 t442 t445 t449 t450 t453)) else (trustquorumlaw05_SlicesEquivalent.j0 k t471 t472 t474 t475 t477 t478 true t441 t442 t445 t449 t450 t453)) else (trustquorumlaw05_SlicesEquivalent.j0 k t471 t472 t474 t475 t477 t478 true t441 t442 t445 t449 t450 t453)) else (trustquorumlaw05_SlicesEquivalent.j0 k t471 t472 t474 t475 t477 t478 true t441 t442 t445 t449 t450 t453)) else (trustquorumlaw05_SlicesEquivalent.j0 k t471 t472 t474 t475 t477 t478 true t441 t442 t445 t449 t450 t453)) else (trustquorumlaw05_SlicesEquivalent.j0 k t471 t472 t474 t475 t477 t478 true t441 t442 t445 t449 t450 t453))) = some r := H
 have A10 := Aside0.mk A100
 clear A100
 replace H := Option.bind_eq_some_iff.mp H
 obtain ⟨⟨t484, t487⟩, A110, H⟩ := H
 replace H : (if t470 = 0 then (if t473 = 0 then (if t476 = 0 then (if t479 = 0 then (if t483 = 0 then (if t487 = 0 then (if t468 = true then (if t474 = true then (if (t471 != t477) = true then (trustquorumlaw05_SlicesEquivalent.j0 k t471 t472 t474 t475 t477 t478 true t441 t442 t445 t449 t450 t453) else ((trustquorummake_Ints.f k t480 t484).bind fun t488 => (trustquorumlaw05_SlicesEquivalent.j0 k t471 t472 t474 t475 t477 t478 (t471 != t488) t441 t442 t445 t449 t450 t453))) else (if (t471 != false) = true then (trustquorumlaw05_SlicesEquivalent.j0 k t471 t472 t474 t475 t477 t478 true t441 t442 t445 t449 t450 t453) else ((trustquorummake_Ints.f k t480 t484).bind fun t489 => (trustquorumlaw05_SlicesEquivalent.j0 k t471 t472 t474 t475 t477 t478 (t471 != t489) t441 t442 t445 t449 t450 t453)))) else (trustquorumlaw05_SlicesEquivalent.j0 k t471 t472 t474 t475 t477 t478 true t441 t442 t445 t449 t450 t453)) else (trustquorumlaw05_SlicesEquivalent.j0 k t471 t472 t474 t475 t477 t478 true t441 t442 t445 t449 t450 t453)) else (trustquorumlaw05_SlicesEquivalent.j0 k t471 t472 t474 t475 t477 t478 true t441 t442 t445 t449 t450 t453)) else (trustquorumlaw05_SlicesEquivalent.j0 k t471 t472 t474 t475 t477 t478 true t441 t442 t445 t449 t450 t453)) else (trustquorumlaw05_SlicesEquivalent.j0 k t471 t472 t474 t475 t477 t478 true t441 t442 t445 t449 t450 t453)) else (trustquorumlaw05_SlicesEquivalent.j0 k t471 t472 t474 t475 t477 t478 true t441 t442 t445 t449 t450 t453)) else (trustquorumlaw05_SlicesEquivalent.j0 k t471 t472 t474 t475 t477 t478 true t441 t442 t445 t449 t450 t453)) = some r := H
 have A11 := Aside0.mk A110
 clear A110
 have HC12 := Aside0.mk H
 clear H
 go_enter Try.func5, Try.ntmps5
 go_upto_region 10 with (first | ((with_reducible refine gate_callee (f := 6) rfl ?_); refine goesA_ (some 25) rfl rfl Try.func6 rfl #[.slice A0 l0.length c0] rfl ?_; (with_reducible refine (trustquorummake_New.calls _ _ l0 t438 t439 w _ ?side1 ?side2 ?side3 A2.out).mono ?_); (case side1 => exact bB HB); (case side2 => exact HR0.out); (case side3 => exact HC0.out); rintro e w13 ⟨g440, rfl, hi, hb, hb2⟩; refine ⟨_, rfl, ?_⟩; replace HB := Aside0.mk (hb); have HI440 := Aside0.mk (hi); (try clear hb); (try clear hb2); (try clear hk); (try clear hi)) | ((with_reducible refine gate_callee (f := 7) rfl ?_); refine goesA_ (some 27) rfl rfl Try.func7 rfl #[.pointer (some ⟨g440, 0, none⟩), .int .i64 3, .int .i64 2] rfl ?_; (with_reducible refine (trustquorummake_Trust.calls k g440 t438 t439 3 2 t441 t442 t445 t448 w _ ?side1 ?side2 A3.out).mono ?_); (case side1 => exact iU HI440); (case side2 => exact bB HB); rintro e w14 ⟨v443, v446, rfl, ho0, ho1, hi, hb, hk⟩; refine ⟨_, rfl, ?_⟩; have HO444 := Aside0.mk (Kd.R_lower ho0 (below_size (bB HB))); have HO447 := Aside0.mk (Kd.R_lower ho1 (below_size (bB HB))); replace HB := Aside0.mk (hb); replace HI440 := Aside0.mk (hi); (try clear hb); (try clear hb2); (try clear hk); (try clear hi); (try clear ho0); (try clear ho1)) | ((with_reducible refine gate_callee (f := 7) rfl ?_); refine goesA_ (some 29) rfl rfl Try.func7 rfl #[.pointer (some ⟨g440, 0, none⟩), .int .i64 3, .int .i64 2] rfl ?_; (with_reducible refine (trustquorummake_Trust.calls k g440 t438 t448 3 2 t449 t450 t453 t456 w _ ?side1 ?side2 A4.out).mono ?_); (case side1 => exact iU HI440); (case side2 => exact bB HB); rintro e w15 ⟨v451, v454, rfl, ho0, ho1, hi, hb, hk⟩; refine ⟨_, rfl, ?_⟩; have HO452 := Aside0.mk (Kd.R_lower (Kd.R_new' ho0 (Kd.R_lt (Kd.uR HO444))) (below_size (bB HB))); have HO455 := Aside0.mk (Kd.R_lower (Kd.R_new' (Kd.R_new' ho1 (Kd.R_lt (Kd.uR HO444))) (Kd.R_lt (Kd.uR HO447))) (below_size (bB HB))); replace HO444 := Aside0.mk (Kd.R_mono (Kd.R_told (Kd.R_oldK (IsS44.apart (show IsS44 w _ g440 t438 t448 from iU HI440) (Kd.uR HO444) (by decide)) hk) (Kd.R_base ho0)) (fun _ h_ => h_.1)); replace HO447 := Aside0.mk (Kd.R_mono (Kd.R_told (Kd.R_told (Kd.R_oldK (IsS44.apart (show IsS44 w _ g440 t438 t448 from iU HI440) (Kd.uR HO447) (by decide)) hk) (Kd.R_base ho0)) (Kd.R_base ho1)) (fun _ h_ => h_.1)); replace HB := Aside0.mk (hb); replace HI440 := Aside0.mk (hi); (try clear hb); (try clear hb2); (try clear hk); (try clear hi); (try clear ho0); (try clear ho1)) | ((with_reducible refine gate_dst (N := 4) rfl ?_); refine box_event ?hg (N := 4) ?hd (cs := #[.int .i64 0, .slice none 0 0, .slice none 0 0]) (t := 27) ?hr ?_; (case hd => rfl); (case hg => rfl); (case hr => first | (go_simp; done) | (go_simp; rfl)); intro gb457 hg w16 hbox hb; replace HO444 := Kd.bR HO444 hb; replace HO447 := Aside0.mk (Kd.R_below (Kd.R_elderB (Kd.uR HO447) gb457 (Nat.le_of_eq hg.symm)) hb); replace HO452 := Kd.bR HO452 hb; replace HO455 := Aside0.mk (Kd.R_below (Kd.R_elderB (Kd.uR HO455) gb457 (Nat.le_of_eq hg.symm)) hb); have BK457 := Aside0.mk (hbox); have GW457 := Aside0.mk ((by rw [hg]; exact (below_size (bB HB)) : w.heap.size ≤ gb457)); have GE457 := Aside0.mk ((by rw [hg]; exact (below_size (bB HB)) : w.heap.size ≤ gb457)); replace HB := bs HB hb; have NB440_457 := Aside0.mk ((by rw [hg]; exact Nat.ne_of_lt (IsS44.lt (show IsS44 w _ g440 t438 t456 from iU HI440)) : g440 ≠ gb457)); have NB457_440 := Aside0.mk ((by rw [hg]; exact Nat.ne_of_gt (IsS44.lt (show IsS44 w _ g440 t438 t456 from iU HI440)) : gb457 ≠ g440)); replace HI440 := Aside0.mk (IsS44.below (iU HI440) hb); clear hb hbox hg) | ((with_reducible refine gate_dst (N := 5) rfl ?_); refine box_event ?hg (N := 5) ?hd (cs := #[.int .i64 0, .slice none 0 0, .slice none 0 0]) (t := 27) ?hr ?_; (case hd => rfl); (case hg => rfl); (case hr => first | (go_simp; done) | (go_simp; rfl)); intro gb458 hg w17 hbox hb; replace HO444 := Kd.bR HO444 hb; replace HO447 := Aside0.mk (Kd.R_below (Kd.R_elderB (Kd.uR HO447) gb458 (Nat.le_of_eq hg.symm)) hb); replace HO452 := Kd.bR HO452 hb; replace HO455 := Aside0.mk (Kd.R_below (Kd.R_elderB (Kd.uR HO455) gb458 (Nat.le_of_eq hg.symm)) hb); have BK458 := Aside0.mk (hbox); have GW458 := Aside0.mk ((by rw [hg]; exact (below_size (bB HB)) : w.heap.size ≤ gb458)); have GE458 := Aside0.mk ((by rw [hg]; exact (below_size (bB HB)) : w.heap.size ≤ gb458)); replace HB := bs HB hb; have NB457_458 := Aside0.mk ((by rw [hg]; exact Nat.ne_of_lt (blk_lt (bU BK457)) : gb457 ≠ gb458)); have NB458_457 := Aside0.mk ((by rw [hg]; exact Nat.ne_of_gt (blk_lt (bU BK457)) : gb458 ≠ gb457)); replace BK457 := bb BK457 hb; have NB440_458 := Aside0.mk ((by rw [hg]; exact Nat.ne_of_lt (IsS44.lt (show IsS44 w _ g440 t438 t456 from iU HI440)) : g440 ≠ gb458)); have NB458_440 := Aside0.mk ((by rw [hg]; exact Nat.ne_of_gt (IsS44.lt (show IsS44 w _ g440 t438 t456 from iU HI440)) : gb458 ≠ g440)); replace HI440 := Aside0.mk (IsS44.below (iU HI440) hb); clear hb hbox hg; have hnb18 := NB457_458.out; have hnc18 := NB458_457.out; have hnb19 := NB457_440.out; have hnc19 := NB440_457.out; have hcz20_0 := bC0 BK457; have hcz20_1 := bC1 BK457; have hcz20_2 := bC2 BK457; have hfz20_0 := blk_frozen BK457.out 0; have hfz20_1 := blk_frozen BK457.out 1; have hfz20_2 := blk_frozen BK457.out 2; obtain ⟨Ao21, co21, eo21⟩ := Kd.R_slice HO444.out; subst eo21; obtain ⟨Ao22, co22, eo22⟩ := Kd.R_slice HO447.out; subst eo22; have hnb23 := NB458_440.out; have hnc23 := NB440_458.out; have hcz24_0 := bC0 BK458; have hcz24_1 := bC1 BK458; have hcz24_2 := bC2 BK458; have hfz24_0 := blk_frozen BK458.out 0; have hfz24_1 := blk_frozen BK458.out 1; have hfz24_2 := blk_frozen BK458.out 2; obtain ⟨Ao25, co25, eo25⟩ := Kd.R_slice HO452.out; subst eo25; obtain ⟨Ao26, co26, eo26⟩ := Kd.R_slice HO455.out; subst eo26) | ((with_reducible refine gate_callee (f := 17) rfl ?_); refine goesA_ (some 32) rfl rfl Try.func17 rfl #[.agg #[.int .i64 t441, .slice Ao21 t442.length co21, .slice Ao22 t445.length co22]] rfl ?_; (with_reducible refine (trustquorumref04_Normal.calls k t441 _ _ t442 _ _ t445 t459 t460 t463 t466 _ ?side1 ?side2 ?side3 ?side4 A5.out).mono ?_); (case side1 => refine (Kd.R_reads' (e := 3) (base := w.heap.size) (ok := fun k_ => (True ∧ some k_ ≠ (.slice Ao25 t450.length co25 : Value).ownBlock)) (n := t442.length) (c := co21) ?_).2.2; exact (by (with_reducible repeat (first | apply Kd.R_alloc | apply Kd.R_drewN | apply Kd.R_drew)); exact (Kd.R_mono (Kd.R_mono (Kd.R_far (p := ⟨gb458, 2, none⟩) (Kd.R_far (p := ⟨gb458, 1, none⟩) (Kd.R_far (p := ⟨gb458, 0, none⟩) (Kd.R_far (p := ⟨gb457, 2, none⟩) (Kd.R_far (p := ⟨gb457, 1, none⟩) (Kd.R_far (p := ⟨gb457, 0, none⟩) (Kd.R_types (Kd.R_types HO444.out BK457.out (by decide)) BK458.out (by decide)) (fun _ hk => hk.1.2) (.int .i64 t441)) (fun _ hk => hk.1.2) (.slice Ao21 t442.length co21)) (fun _ hk => hk.1.2) (.slice Ao22 t445.length co22)) (fun _ hk => hk.2) (.int .i64 t449)) (fun _ hk => hk.2) (.slice Ao25 t450.length co25)) (fun _ hk => hk.2) (.slice Ao26 t453.length co26)) (fun _ h_ => h_.1)) (fun _ h_ => h_.1)))); (case side2 => exact (Kd.R_reads' HO444.out).2.1); (case side3 => refine (Kd.R_reads' (e := 27) (base := w.heap.size) (ok := fun k_ => ((((some k_ ≠ (.slice Ao21 t442.length co21 : Value).ownBlock ∧ some k_ ≠ (.slice Ao25 t450.length co25 : Value).ownBlock) ∧ some k_ ≠ (.slice Ao26 t453.length co26 : Value).ownBlock) ∧ k_ ≠ gb457) ∧ k_ ≠ gb458)) (n := t445.length) (c := co22) ?_).2.2; exact (by (with_reducible repeat (first | apply Kd.R_alloc | apply Kd.R_drewN | apply Kd.R_drew)); exact (Kd.R_mono (Kd.R_mono (Kd.R_far (p := ⟨gb458, 2, none⟩) (Kd.R_far (p := ⟨gb458, 1, none⟩) (Kd.R_far (p := ⟨gb458, 0, none⟩) (Kd.R_far (p := ⟨gb457, 2, none⟩) (Kd.R_far (p := ⟨gb457, 1, none⟩) (Kd.R_far (p := ⟨gb457, 0, none⟩) (Kd.R_mono (Kd.R_mono HO447.out (fun k_ hk => (⟨hk, hk.1.2⟩ : _ ∧ k_ ≠ gb457))) (fun k_ hk => (⟨hk, hk.1.2⟩ : _ ∧ k_ ≠ gb458))) (fun _ hk => hk.1.2) (.int .i64 t441)) (fun _ hk => hk.1.2) (.slice Ao21 t442.length co21)) (fun _ hk => hk.1.2) (.slice Ao22 t445.length co22)) (fun _ hk => hk.2) (.int .i64 t449)) (fun _ hk => hk.2) (.slice Ao25 t450.length co25)) (fun _ hk => hk.2) (.slice Ao26 t453.length co26)) (fun _ h_ => h_.1)) (fun _ h_ => h_.1)))); (case side4 => exact (Kd.R_reads' HO447.out).2.1); rintro e w27 ⟨v461, v464, rfl, ho0, ho1, hb⟩; refine ⟨_, rfl, ?_⟩; have HO462 := Aside0.mk (Kd.V_lower (Kd.V_mono (ok' := fun k_ => some k_ ≠ (.slice Ao21 t442.length co21 : Value).ownBlock ∧ some k_ ≠ (.slice Ao22 t445.length co22 : Value).ownBlock ∧ some k_ ≠ (.slice Ao25 t450.length co25 : Value).ownBlock ∧ some k_ ≠ (.slice Ao26 t453.length co26 : Value).ownBlock ∧ k_ ≠ gb457 ∧ k_ ≠ gb458 ∧ k_ ≠ g440) ho0 (fun k_ hk_ => ⟨(Kd.fresh' (Kd.R_lt (by (with_reducible repeat (first | apply Kd.R_alloc | apply Kd.R_drewN | apply Kd.R_drew)); exact (Kd.R_mono (Kd.R_mono (Kd.R_far (p := ⟨gb458, 2, none⟩) (Kd.R_far (p := ⟨gb458, 1, none⟩) (Kd.R_far (p := ⟨gb458, 0, none⟩) (Kd.R_far (p := ⟨gb457, 2, none⟩) (Kd.R_far (p := ⟨gb457, 1, none⟩) (Kd.R_far (p := ⟨gb457, 0, none⟩) (Kd.R_types (Kd.R_types HO444.out BK457.out (by decide)) BK458.out (by decide)) (fun _ hk => hk.1.2) (.int .i64 t441)) (fun _ hk => hk.1.2) (.slice Ao21 t442.length co21)) (fun _ hk => hk.1.2) (.slice Ao22 t445.length co22)) (fun _ hk => hk.2) (.int .i64 t449)) (fun _ hk => hk.2) (.slice Ao25 t450.length co25)) (fun _ hk => hk.2) (.slice Ao26 t453.length co26)) (fun _ h_ => h_.1)) (fun _ h_ => h_.1)))) k_ hk_), (Kd.fresh' (Kd.R_lt (by (with_reducible repeat (first | apply Kd.R_alloc | apply Kd.R_drewN | apply Kd.R_drew)); exact (Kd.R_mono (Kd.R_mono (Kd.R_far (p := ⟨gb458, 2, none⟩) (Kd.R_far (p := ⟨gb458, 1, none⟩) (Kd.R_far (p := ⟨gb458, 0, none⟩) (Kd.R_far (p := ⟨gb457, 2, none⟩) (Kd.R_far (p := ⟨gb457, 1, none⟩) (Kd.R_far (p := ⟨gb457, 0, none⟩) (Kd.R_mono (Kd.R_mono HO447.out (fun k_ hk => (⟨hk, hk.1.2⟩ : _ ∧ k_ ≠ gb457))) (fun k_ hk => (⟨hk, hk.1.2⟩ : _ ∧ k_ ≠ gb458))) (fun _ hk => hk.1.2) (.int .i64 t441)) (fun _ hk => hk.1.2) (.slice Ao21 t442.length co21)) (fun _ hk => hk.1.2) (.slice Ao22 t445.length co22)) (fun _ hk => hk.2) (.int .i64 t449)) (fun _ hk => hk.2) (.slice Ao25 t450.length co25)) (fun _ hk => hk.2) (.slice Ao26 t453.length co26)) (fun _ h_ => h_.1)) (fun _ h_ => h_.1)))) k_ hk_), (Kd.fresh' (Kd.R_lt (by (with_reducible repeat (first | apply Kd.R_alloc | apply Kd.R_drewN | apply Kd.R_drew)); exact (Kd.R_mono (Kd.R_mono (Kd.R_far (p := ⟨gb458, 2, none⟩) (Kd.R_far (p := ⟨gb458, 1, none⟩) (Kd.R_far (p := ⟨gb458, 0, none⟩) (Kd.R_far (p := ⟨gb457, 2, none⟩) (Kd.R_far (p := ⟨gb457, 1, none⟩) (Kd.R_far (p := ⟨gb457, 0, none⟩) (Kd.R_types (Kd.R_types HO452.out BK457.out (by decide)) BK458.out (by decide)) (fun _ hk => hk.1.2) (.int .i64 t441)) (fun _ hk => hk.1.2) (.slice Ao21 t442.length co21)) (fun _ hk => hk.1.2) (.slice Ao22 t445.length co22)) (fun _ hk => hk.2) (.int .i64 t449)) (fun _ hk => hk.2) (.slice Ao25 t450.length co25)) (fun _ hk => hk.2) (.slice Ao26 t453.length co26)) (fun _ h_ => h_.1)) (fun _ h_ => h_.1)))) k_ hk_), (Kd.fresh' (Kd.R_lt (by (with_reducible repeat (first | apply Kd.R_alloc | apply Kd.R_drewN | apply Kd.R_drew)); exact (Kd.R_mono (Kd.R_mono (Kd.R_far (p := ⟨gb458, 2, none⟩) (Kd.R_far (p := ⟨gb458, 1, none⟩) (Kd.R_far (p := ⟨gb458, 0, none⟩) (Kd.R_far (p := ⟨gb457, 2, none⟩) (Kd.R_far (p := ⟨gb457, 1, none⟩) (Kd.R_far (p := ⟨gb457, 0, none⟩) (Kd.R_mono (Kd.R_mono HO455.out (fun k_ hk => (⟨hk, hk.1.2⟩ : _ ∧ k_ ≠ gb457))) (fun k_ hk => (⟨hk, hk.1.2⟩ : _ ∧ k_ ≠ gb458))) (fun _ hk => hk.1.2) (.int .i64 t441)) (fun _ hk => hk.1.2) (.slice Ao21 t442.length co21)) (fun _ hk => hk.1.2) (.slice Ao22 t445.length co22)) (fun _ hk => hk.2) (.int .i64 t449)) (fun _ hk => hk.2) (.slice Ao25 t450.length co25)) (fun _ hk => hk.2) (.slice Ao26 t453.length co26)) (fun _ h_ => h_.1)) (fun _ h_ => h_.1)))) k_ hk_), (Kd.freshB (g := gb457) (o := .cells #[.int .i64 t441, .slice Ao21 t442.length co21, .slice Ao22 t445.length co22] 27 (0, 0)) (by (with_reducible repeat (first | refine blk_drewN ?_ _ | refine blk_drew ?_ | refine blk_alloc ?_ _)); refine blk_far ?_ NB457_458.out _; (with_reducible repeat (first | refine blk_drewN ?_ _ | refine blk_drew ?_ | refine blk_alloc ?_ _)); refine blk_far ?_ NB457_458.out _; (with_reducible repeat (first | refine blk_drewN ?_ _ | refine blk_drew ?_ | refine blk_alloc ?_ _)); refine blk_far ?_ NB457_458.out _; (with_reducible repeat (first | refine blk_drewN ?_ _ | refine blk_drew ?_ | refine blk_alloc ?_ _)); refine blk_put (cs := #[.int .i64 t441, .slice Ao21 t442.length co21, .slice none 0 0]) ?_ 2 _ rfl; (with_reducible repeat (first | refine blk_drewN ?_ _ | refine blk_drew ?_ | refine blk_alloc ?_ _)); refine blk_put (cs := #[.int .i64 t441, .slice none 0 0, .slice none 0 0]) ?_ 1 _ rfl; (with_reducible repeat (first | refine blk_drewN ?_ _ | refine blk_drew ?_ | refine blk_alloc ?_ _)); refine blk_put (cs := #[.int .i64 0, .slice none 0 0, .slice none 0 0]) ?_ 0 _ rfl; (with_reducible repeat (first | refine blk_drewN ?_ _ | refine blk_drew ?_ | refine blk_alloc ?_ _)); exact BK457.out) k_ hk_), (Kd.freshB (g := gb458) (o := .cells #[.int .i64 t449, .slice Ao25 t450.length co25, .slice Ao26 t453.length co26] 27 (0, 0)) (by (with_reducible repeat (first | refine blk_drewN ?_ _ | refine blk_drew ?_ | refine blk_alloc ?_ _)); refine blk_put (cs := #[.int .i64 t449, .slice Ao25 t450.length co25, .slice none 0 0]) ?_ 2 _ rfl; (with_reducible repeat (first | refine blk_drewN ?_ _ | refine blk_drew ?_ | refine blk_alloc ?_ _)); refine blk_put (cs := #[.int .i64 t449, .slice none 0 0, .slice none 0 0]) ?_ 1 _ rfl; (with_reducible repeat (first | refine blk_drewN ?_ _ | refine blk_drew ?_ | refine blk_alloc ?_ _)); refine blk_put (cs := #[.int .i64 0, .slice none 0 0, .slice none 0 0]) ?_ 0 _ rfl; (with_reducible repeat (first | refine blk_drewN ?_ _ | refine blk_drew ?_ | refine blk_alloc ?_ _)); refine blk_far ?_ NB458_457.out _; (with_reducible repeat (first | refine blk_drewN ?_ _ | refine blk_drew ?_ | refine blk_alloc ?_ _)); refine blk_far ?_ NB458_457.out _; (with_reducible repeat (first | refine blk_drewN ?_ _ | refine blk_drew ?_ | refine blk_alloc ?_ _)); refine blk_far ?_ NB458_457.out _; (with_reducible repeat (first | refine blk_drewN ?_ _ | refine blk_drew ?_ | refine blk_alloc ?_ _)); exact BK458.out) k_ hk_), (IsS44.fresh (iU HI440) k_ hk_)⟩)) (below_size (bB HB))); have HO465 := Aside0.mk (Kd.V_lower (Kd.V_mono (ok' := fun k_ => some k_ ≠ (.slice Ao21 t442.length co21 : Value).ownBlock ∧ some k_ ≠ (.slice Ao22 t445.length co22 : Value).ownBlock ∧ some k_ ≠ (.slice Ao25 t450.length co25 : Value).ownBlock ∧ some k_ ≠ (.slice Ao26 t453.length co26 : Value).ownBlock ∧ k_ ≠ gb457 ∧ k_ ≠ gb458 ∧ k_ ≠ g440) ho1 (fun k_ hk_ => ⟨(Kd.fresh' (Kd.R_lt (by (with_reducible repeat (first | apply Kd.R_alloc | apply Kd.R_drewN | apply Kd.R_drew)); exact (Kd.R_mono (Kd.R_mono (Kd.R_far (p := ⟨gb458, 2, none⟩) (Kd.R_far (p := ⟨gb458, 1, none⟩) (Kd.R_far (p := ⟨gb458, 0, none⟩) (Kd.R_far (p := ⟨gb457, 2, none⟩) (Kd.R_far (p := ⟨gb457, 1, none⟩) (Kd.R_far (p := ⟨gb457, 0, none⟩) (Kd.R_types (Kd.R_types HO444.out BK457.out (by decide)) BK458.out (by decide)) (fun _ hk => hk.1.2) (.int .i64 t441)) (fun _ hk => hk.1.2) (.slice Ao21 t442.length co21)) (fun _ hk => hk.1.2) (.slice Ao22 t445.length co22)) (fun _ hk => hk.2) (.int .i64 t449)) (fun _ hk => hk.2) (.slice Ao25 t450.length co25)) (fun _ hk => hk.2) (.slice Ao26 t453.length co26)) (fun _ h_ => h_.1)) (fun _ h_ => h_.1)))) k_ hk_), (Kd.fresh' (Kd.R_lt (by (with_reducible repeat (first | apply Kd.R_alloc | apply Kd.R_drewN | apply Kd.R_drew)); exact (Kd.R_mono (Kd.R_mono (Kd.R_far (p := ⟨gb458, 2, none⟩) (Kd.R_far (p := ⟨gb458, 1, none⟩) (Kd.R_far (p := ⟨gb458, 0, none⟩) (Kd.R_far (p := ⟨gb457, 2, none⟩) (Kd.R_far (p := ⟨gb457, 1, none⟩) (Kd.R_far (p := ⟨gb457, 0, none⟩) (Kd.R_mono (Kd.R_mono HO447.out (fun k_ hk => (⟨hk, hk.1.2⟩ : _ ∧ k_ ≠ gb457))) (fun k_ hk => (⟨hk, hk.1.2⟩ : _ ∧ k_ ≠ gb458))) (fun _ hk => hk.1.2) (.int .i64 t441)) (fun _ hk => hk.1.2) (.slice Ao21 t442.length co21)) (fun _ hk => hk.1.2) (.slice Ao22 t445.length co22)) (fun _ hk => hk.2) (.int .i64 t449)) (fun _ hk => hk.2) (.slice Ao25 t450.length co25)) (fun _ hk => hk.2) (.slice Ao26 t453.length co26)) (fun _ h_ => h_.1)) (fun _ h_ => h_.1)))) k_ hk_), (Kd.fresh' (Kd.R_lt (by (with_reducible repeat (first | apply Kd.R_alloc | apply Kd.R_drewN | apply Kd.R_drew)); exact (Kd.R_mono (Kd.R_mono (Kd.R_far (p := ⟨gb458, 2, none⟩) (Kd.R_far (p := ⟨gb458, 1, none⟩) (Kd.R_far (p := ⟨gb458, 0, none⟩) (Kd.R_far (p := ⟨gb457, 2, none⟩) (Kd.R_far (p := ⟨gb457, 1, none⟩) (Kd.R_far (p := ⟨gb457, 0, none⟩) (Kd.R_types (Kd.R_types HO452.out BK457.out (by decide)) BK458.out (by decide)) (fun _ hk => hk.1.2) (.int .i64 t441)) (fun _ hk => hk.1.2) (.slice Ao21 t442.length co21)) (fun _ hk => hk.1.2) (.slice Ao22 t445.length co22)) (fun _ hk => hk.2) (.int .i64 t449)) (fun _ hk => hk.2) (.slice Ao25 t450.length co25)) (fun _ hk => hk.2) (.slice Ao26 t453.length co26)) (fun _ h_ => h_.1)) (fun _ h_ => h_.1)))) k_ hk_), (Kd.fresh' (Kd.R_lt (by (with_reducible repeat (first | apply Kd.R_alloc | apply Kd.R_drewN | apply Kd.R_drew)); exact (Kd.R_mono (Kd.R_mono (Kd.R_far (p := ⟨gb458, 2, none⟩) (Kd.R_far (p := ⟨gb458, 1, none⟩) (Kd.R_far (p := ⟨gb458, 0, none⟩) (Kd.R_far (p := ⟨gb457, 2, none⟩) (Kd.R_far (p := ⟨gb457, 1, none⟩) (Kd.R_far (p := ⟨gb457, 0, none⟩) (Kd.R_mono (Kd.R_mono HO455.out (fun k_ hk => (⟨hk, hk.1.2⟩ : _ ∧ k_ ≠ gb457))) (fun k_ hk => (⟨hk, hk.1.2⟩ : _ ∧ k_ ≠ gb458))) (fun _ hk => hk.1.2) (.int .i64 t441)) (fun _ hk => hk.1.2) (.slice Ao21 t442.length co21)) (fun _ hk => hk.1.2) (.slice Ao22 t445.length co22)) (fun _ hk => hk.2) (.int .i64 t449)) (fun _ hk => hk.2) (.slice Ao25 t450.length co25)) (fun _ hk => hk.2) (.slice Ao26 t453.length co26)) (fun _ h_ => h_.1)) (fun _ h_ => h_.1)))) k_ hk_), (Kd.freshB (g := gb457) (o := .cells #[.int .i64 t441, .slice Ao21 t442.length co21, .slice Ao22 t445.length co22] 27 (0, 0)) (by (with_reducible repeat (first | refine blk_drewN ?_ _ | refine blk_drew ?_ | refine blk_alloc ?_ _)); refine blk_far ?_ NB457_458.out _; (with_reducible repeat (first | refine blk_drewN ?_ _ | refine blk_drew ?_ | refine blk_alloc ?_ _)); refine blk_far ?_ NB457_458.out _; (with_reducible repeat (first | refine blk_drewN ?_ _ | refine blk_drew ?_ | refine blk_alloc ?_ _)); refine blk_far ?_ NB457_458.out _; (with_reducible repeat (first | refine blk_drewN ?_ _ | refine blk_drew ?_ | refine blk_alloc ?_ _)); refine blk_put (cs := #[.int .i64 t441, .slice Ao21 t442.length co21, .slice none 0 0]) ?_ 2 _ rfl; (with_reducible repeat (first | refine blk_drewN ?_ _ | refine blk_drew ?_ | refine blk_alloc ?_ _)); refine blk_put (cs := #[.int .i64 t441, .slice none 0 0, .slice none 0 0]) ?_ 1 _ rfl; (with_reducible repeat (first | refine blk_drewN ?_ _ | refine blk_drew ?_ | refine blk_alloc ?_ _)); refine blk_put (cs := #[.int .i64 0, .slice none 0 0, .slice none 0 0]) ?_ 0 _ rfl; (with_reducible repeat (first | refine blk_drewN ?_ _ | refine blk_drew ?_ | refine blk_alloc ?_ _)); exact BK457.out) k_ hk_), (Kd.freshB (g := gb458) (o := .cells #[.int .i64 t449, .slice Ao25 t450.length co25, .slice Ao26 t453.length co26] 27 (0, 0)) (by (with_reducible repeat (first | refine blk_drewN ?_ _ | refine blk_drew ?_ | refine blk_alloc ?_ _)); refine blk_put (cs := #[.int .i64 t449, .slice Ao25 t450.length co25, .slice none 0 0]) ?_ 2 _ rfl; (with_reducible repeat (first | refine blk_drewN ?_ _ | refine blk_drew ?_ | refine blk_alloc ?_ _)); refine blk_put (cs := #[.int .i64 t449, .slice none 0 0, .slice none 0 0]) ?_ 1 _ rfl; (with_reducible repeat (first | refine blk_drewN ?_ _ | refine blk_drew ?_ | refine blk_alloc ?_ _)); refine blk_put (cs := #[.int .i64 0, .slice none 0 0, .slice none 0 0]) ?_ 0 _ rfl; (with_reducible repeat (first | refine blk_drewN ?_ _ | refine blk_drew ?_ | refine blk_alloc ?_ _)); refine blk_far ?_ NB458_457.out _; (with_reducible repeat (first | refine blk_drewN ?_ _ | refine blk_drew ?_ | refine blk_alloc ?_ _)); refine blk_far ?_ NB458_457.out _; (with_reducible repeat (first | refine blk_drewN ?_ _ | refine blk_drew ?_ | refine blk_alloc ?_ _)); refine blk_far ?_ NB458_457.out _; (with_reducible repeat (first | refine blk_drewN ?_ _ | refine blk_drew ?_ | refine blk_alloc ?_ _)); exact BK458.out) k_ hk_), (IsS44.fresh (iU HI440) k_ hk_)⟩)) (below_size (bB HB))); replace HO444 := Aside0.mk (Kd.R_below (by (with_reducible repeat (first | apply Kd.R_alloc | apply Kd.R_drewN | apply Kd.R_drew)); exact (Kd.R_mono (Kd.R_mono (Kd.R_far (p := ⟨gb458, 2, none⟩) (Kd.R_far (p := ⟨gb458, 1, none⟩) (Kd.R_far (p := ⟨gb458, 0, none⟩) (Kd.R_far (p := ⟨gb457, 2, none⟩) (Kd.R_far (p := ⟨gb457, 1, none⟩) (Kd.R_far (p := ⟨gb457, 0, none⟩) (Kd.R_types (Kd.R_types HO444.out BK457.out (by decide)) BK458.out (by decide)) (fun _ hk => hk.1.2) (.int .i64 t441)) (fun _ hk => hk.1.2) (.slice Ao21 t442.length co21)) (fun _ hk => hk.1.2) (.slice Ao22 t445.length co22)) (fun _ hk => hk.2) (.int .i64 t449)) (fun _ hk => hk.2) (.slice Ao25 t450.length co25)) (fun _ hk => hk.2) (.slice Ao26 t453.length co26)) (fun _ h_ => h_.1)) (fun _ h_ => h_.1))) hb); replace HO447 := Aside0.mk (Kd.R_below (by (with_reducible repeat (first | apply Kd.R_alloc | apply Kd.R_drewN | apply Kd.R_drew)); exact (Kd.R_mono (Kd.R_mono (Kd.R_far (p := ⟨gb458, 2, none⟩) (Kd.R_far (p := ⟨gb458, 1, none⟩) (Kd.R_far (p := ⟨gb458, 0, none⟩) (Kd.R_far (p := ⟨gb457, 2, none⟩) (Kd.R_far (p := ⟨gb457, 1, none⟩) (Kd.R_far (p := ⟨gb457, 0, none⟩) (Kd.R_mono (Kd.R_mono HO447.out (fun k_ hk => (⟨hk, hk.1.2⟩ : _ ∧ k_ ≠ gb457))) (fun k_ hk => (⟨hk, hk.1.2⟩ : _ ∧ k_ ≠ gb458))) (fun _ hk => hk.1.2) (.int .i64 t441)) (fun _ hk => hk.1.2) (.slice Ao21 t442.length co21)) (fun _ hk => hk.1.2) (.slice Ao22 t445.length co22)) (fun _ hk => hk.2) (.int .i64 t449)) (fun _ hk => hk.2) (.slice Ao25 t450.length co25)) (fun _ hk => hk.2) (.slice Ao26 t453.length co26)) (fun _ h_ => h_.1)) (fun _ h_ => h_.1))) hb); replace HO452 := Aside0.mk (Kd.R_below (by (with_reducible repeat (first | apply Kd.R_alloc | apply Kd.R_drewN | apply Kd.R_drew)); exact (Kd.R_mono (Kd.R_mono (Kd.R_far (p := ⟨gb458, 2, none⟩) (Kd.R_far (p := ⟨gb458, 1, none⟩) (Kd.R_far (p := ⟨gb458, 0, none⟩) (Kd.R_far (p := ⟨gb457, 2, none⟩) (Kd.R_far (p := ⟨gb457, 1, none⟩) (Kd.R_far (p := ⟨gb457, 0, none⟩) (Kd.R_types (Kd.R_types HO452.out BK457.out (by decide)) BK458.out (by decide)) (fun _ hk => hk.1.2) (.int .i64 t441)) (fun _ hk => hk.1.2) (.slice Ao21 t442.length co21)) (fun _ hk => hk.1.2) (.slice Ao22 t445.length co22)) (fun _ hk => hk.2) (.int .i64 t449)) (fun _ hk => hk.2) (.slice Ao25 t450.length co25)) (fun _ hk => hk.2) (.slice Ao26 t453.length co26)) (fun _ h_ => h_.1)) (fun _ h_ => h_.1))) hb); replace HO455 := Aside0.mk (Kd.R_below (by (with_reducible repeat (first | apply Kd.R_alloc | apply Kd.R_drewN | apply Kd.R_drew)); exact (Kd.R_mono (Kd.R_mono (Kd.R_far (p := ⟨gb458, 2, none⟩) (Kd.R_far (p := ⟨gb458, 1, none⟩) (Kd.R_far (p := ⟨gb458, 0, none⟩) (Kd.R_far (p := ⟨gb457, 2, none⟩) (Kd.R_far (p := ⟨gb457, 1, none⟩) (Kd.R_far (p := ⟨gb457, 0, none⟩) (Kd.R_mono (Kd.R_mono HO455.out (fun k_ hk => (⟨hk, hk.1.2⟩ : _ ∧ k_ ≠ gb457))) (fun k_ hk => (⟨hk, hk.1.2⟩ : _ ∧ k_ ≠ gb458))) (fun _ hk => hk.1.2) (.int .i64 t441)) (fun _ hk => hk.1.2) (.slice Ao21 t442.length co21)) (fun _ hk => hk.1.2) (.slice Ao22 t445.length co22)) (fun _ hk => hk.2) (.int .i64 t449)) (fun _ hk => hk.2) (.slice Ao25 t450.length co25)) (fun _ hk => hk.2) (.slice Ao26 t453.length co26)) (fun _ h_ => h_.1)) (fun _ h_ => h_.1))) hb); replace HI440 := Aside0.mk (IsS44.below (show IsS44 w ((((((w17.setCell ⟨gb457, 0, none⟩ (.int .i64 t441)).setCell ⟨gb457, 1, none⟩ (.slice Ao21 t442.length co21)).setCell ⟨gb457, 2, none⟩ (.slice Ao22 t445.length co22)).setCell ⟨gb458, 0, none⟩ (.int .i64 t449)).setCell ⟨gb458, 1, none⟩ (.slice Ao25 t450.length co25)).setCell ⟨gb458, 2, none⟩ (.slice Ao26 t453.length co26)) g440 t438 t456 from iU HI440) hb); replace BK457 := Aside0.mk (blk_below (g := gb457) (o := .cells #[.int .i64 t441, .slice Ao21 t442.length co21, .slice Ao22 t445.length co22] 27 (0, 0)) (by (with_reducible repeat (first | refine blk_drewN ?_ _ | refine blk_drew ?_ | refine blk_alloc ?_ _)); refine blk_far ?_ NB457_458.out _; (with_reducible repeat (first | refine blk_drewN ?_ _ | refine blk_drew ?_ | refine blk_alloc ?_ _)); refine blk_far ?_ NB457_458.out _; (with_reducible repeat (first | refine blk_drewN ?_ _ | refine blk_drew ?_ | refine blk_alloc ?_ _)); refine blk_far ?_ NB457_458.out _; (with_reducible repeat (first | refine blk_drewN ?_ _ | refine blk_drew ?_ | refine blk_alloc ?_ _)); refine blk_put (cs := #[.int .i64 t441, .slice Ao21 t442.length co21, .slice none 0 0]) ?_ 2 _ rfl; (with_reducible repeat (first | refine blk_drewN ?_ _ | refine blk_drew ?_ | refine blk_alloc ?_ _)); refine blk_put (cs := #[.int .i64 t441, .slice none 0 0, .slice none 0 0]) ?_ 1 _ rfl; (with_reducible repeat (first | refine blk_drewN ?_ _ | refine blk_drew ?_ | refine blk_alloc ?_ _)); refine blk_put (cs := #[.int .i64 0, .slice none 0 0, .slice none 0 0]) ?_ 0 _ rfl; (with_reducible repeat (first | refine blk_drewN ?_ _ | refine blk_drew ?_ | refine blk_alloc ?_ _)); exact BK457.out) hb); replace BK458 := Aside0.mk (blk_below (g := gb458) (o := .cells #[.int .i64 t449, .slice Ao25 t450.length co25, .slice Ao26 t453.length co26] 27 (0, 0)) (by (with_reducible repeat (first | refine blk_drewN ?_ _ | refine blk_drew ?_ | refine blk_alloc ?_ _)); refine blk_put (cs := #[.int .i64 t449, .slice Ao25 t450.length co25, .slice none 0 0]) ?_ 2 _ rfl; (with_reducible repeat (first | refine blk_drewN ?_ _ | refine blk_drew ?_ | refine blk_alloc ?_ _)); refine blk_put (cs := #[.int .i64 t449, .slice none 0 0, .slice none 0 0]) ?_ 1 _ rfl; (with_reducible repeat (first | refine blk_drewN ?_ _ | refine blk_drew ?_ | refine blk_alloc ?_ _)); refine blk_put (cs := #[.int .i64 0, .slice none 0 0, .slice none 0 0]) ?_ 0 _ rfl; (with_reducible repeat (first | refine blk_drewN ?_ _ | refine blk_drew ?_ | refine blk_alloc ?_ _)); refine blk_far ?_ NB458_457.out _; (with_reducible repeat (first | refine blk_drewN ?_ _ | refine blk_drew ?_ | refine blk_alloc ?_ _)); refine blk_far ?_ NB458_457.out _; (with_reducible repeat (first | refine blk_drewN ?_ _ | refine blk_drew ?_ | refine blk_alloc ?_ _)); refine blk_far ?_ NB458_457.out _; (with_reducible repeat (first | refine blk_drewN ?_ _ | refine blk_drew ?_ | refine blk_alloc ?_ _)); exact BK458.out) hb); replace HB := bs HB hb; (try clear hb); (try clear hb2); (try clear hk); (try clear hi); (try clear ho0); (try clear ho1)) | ((with_reducible refine gate_dst (N := 6) rfl ?_); refine box_event ?hg (N := 6) ?hd (cs := #[.int .i64 0, .slice none 0 0, .slice none 0 0]) (t := 27) ?hr ?_; (case hd => rfl); (case hg => rfl); (case hr => first | (go_simp; done) | (go_simp; rfl)); intro gb467 hg w28 hbox hb; replace HO444 := Kd.bR HO444 hb; replace HO447 := Aside0.mk (Kd.R_below (Kd.R_elderB (Kd.uR HO447) gb467 (Nat.le_of_eq hg.symm)) hb); replace HO452 := Kd.bR HO452 hb; replace HO455 := Aside0.mk (Kd.R_below (Kd.R_elderB (Kd.uR HO455) gb467 (Nat.le_of_eq hg.symm)) hb); replace HO462 := Aside0.mk (Kd.V_below (Kd.V_elderB (Kd.uV HO462) gb467 (Nat.le_of_eq hg.symm)) hb); replace HO465 := Aside0.mk (Kd.V_below (Kd.V_elderB (Kd.uV HO465) gb467 (Nat.le_of_eq hg.symm)) hb); have BK467 := Aside0.mk (hbox); have GW467 := Aside0.mk ((by rw [hg]; exact (below_size (bB HB)) : w.heap.size ≤ gb467)); have GE467 := Aside0.mk ((by rw [hg]; exact (below_size (bB HB)) : w.heap.size ≤ gb467)); replace HB := bs HB hb; have NB457_467 := Aside0.mk ((by rw [hg]; exact Nat.ne_of_lt (blk_lt (bU BK457)) : gb457 ≠ gb467)); have NB467_457 := Aside0.mk ((by rw [hg]; exact Nat.ne_of_gt (blk_lt (bU BK457)) : gb467 ≠ gb457)); replace BK457 := bb BK457 hb; have NB458_467 := Aside0.mk ((by rw [hg]; exact Nat.ne_of_lt (blk_lt (bU BK458)) : gb458 ≠ gb467)); have NB467_458 := Aside0.mk ((by rw [hg]; exact Nat.ne_of_gt (blk_lt (bU BK458)) : gb467 ≠ gb458)); replace BK458 := bb BK458 hb; have NB440_467 := Aside0.mk ((by rw [hg]; exact Nat.ne_of_lt (IsS44.lt (show IsS44 w _ g440 t438 t456 from iU HI440)) : g440 ≠ gb467)); have NB467_440 := Aside0.mk ((by rw [hg]; exact Nat.ne_of_gt (IsS44.lt (show IsS44 w _ g440 t438 t456 from iU HI440)) : gb467 ≠ g440)); replace HI440 := Aside0.mk (IsS44.below (iU HI440) hb); clear hb hbox hg; have hnb29 := NB467_457.out; have hnc29 := NB457_467.out; have hnb30 := NB467_458.out; have hnc30 := NB458_467.out; have hnb31 := NB467_440.out; have hnc31 := NB440_467.out; have hcz32_0 := bC0 BK467; have hcz32_1 := bC1 BK467; have hcz32_2 := bC2 BK467; have hfz32_0 := blk_frozen BK467.out 0; have hfz32_1 := blk_frozen BK467.out 1; have hfz32_2 := blk_frozen BK467.out 2; obtain ⟨Ao33, co33, eo33⟩ := Kd.V_slice HO462.out; subst eo33; obtain ⟨Ao34, co34, eo34⟩ := Kd.V_slice HO465.out; subst eo34; have hcz35_0 := bC0 BK457; have hcz35_1 := bC1 BK457; have hcz35_2 := bC2 BK457; have hfz35_0 := blk_frozen BK457.out 0; have hfz35_1 := blk_frozen BK457.out 1; have hfz35_2 := blk_frozen BK457.out 2) | ((with_reducible refine gate_callee (f := 18) rfl ?_); refine goesA_ (some 38) rfl rfl Try.func18 rfl #[.agg #[.int .i64 t441, .slice Ao21 t442.length co21, .slice Ao22 t445.length co22], .agg #[.int .i64 t459, .slice Ao33 t460.length co33, .slice Ao34 t463.length co34]] rfl ?_; (with_reducible refine (slices_Equivalent.calls k t441 _ _ t442 _ _ t445 t459 _ _ t460 _ _ t463 t468 t469 t470 _ ?side1 ?side2 ?side3 ?side4 ?side5 ?side6 ?side7 ?side8 A6.out).mono ?_); (case side1 => refine (Kd.R_reads' (e := 3) (base := w.heap.size) (ok := fun k_ => (True ∧ some k_ ≠ (.slice Ao25 t450.length co25 : Value).ownBlock)) (n := t442.length) (c := co21) ?_).2.2; exact (by (with_reducible repeat (first | apply Kd.R_alloc | apply Kd.R_drewN | apply Kd.R_drew)); exact (Kd.R_ft3 (Kd.R_types HO444.out BK467.out (by decide))))); (case side2 => exact (Kd.R_reads' HO444.out).2.1); (case side3 => refine (Kd.R_reads' (e := 27) (base := w.heap.size) (ok := fun k_ => (((((some k_ ≠ (.slice Ao21 t442.length co21 : Value).ownBlock ∧ some k_ ≠ (.slice Ao25 t450.length co25 : Value).ownBlock) ∧ some k_ ≠ (.slice Ao26 t453.length co26 : Value).ownBlock) ∧ k_ ≠ gb457) ∧ k_ ≠ gb458) ∧ k_ ≠ gb467)) (n := t445.length) (c := co22) ?_).2.2; exact (by (with_reducible repeat (first | apply Kd.R_alloc | apply Kd.R_drewN | apply Kd.R_drew)); exact (Kd.R_fw3 HO447.out (fun _ hk => hk.2)))); (case side4 => exact (Kd.R_reads' HO447.out).2.1); (case side5 => refine (Kd.V_reads' (e := 3) (base := w.heap.size) (ok := fun k_ => ((some k_ ≠ (.slice Ao21 t442.length co21 : Value).ownBlock ∧ (some k_ ≠ (.slice Ao22 t445.length co22 : Value).ownBlock ∧ (some k_ ≠ (.slice Ao25 t450.length co25 : Value).ownBlock ∧ (some k_ ≠ (.slice Ao26 t453.length co26 : Value).ownBlock ∧ (k_ ≠ gb457 ∧ (k_ ≠ gb458 ∧ k_ ≠ g440)))))) ∧ k_ ≠ gb467)) (n := t460.length) (c := co33) ?_).2.2; exact (by (with_reducible repeat (first | apply Kd.V_alloc | apply Kd.V_drewN | apply Kd.V_drew)); exact (Kd.V_fw3 HO462.out (fun _ hk => hk.2)))); (case side6 => exact (Kd.V_reads' HO462.out).2.1); (case side7 => refine (Kd.V_reads' (e := 27) (base := w.heap.size) (ok := fun k_ => ((some k_ ≠ (.slice Ao21 t442.length co21 : Value).ownBlock ∧ (some k_ ≠ (.slice Ao22 t445.length co22 : Value).ownBlock ∧ (some k_ ≠ (.slice Ao25 t450.length co25 : Value).ownBlock ∧ (some k_ ≠ (.slice Ao26 t453.length co26 : Value).ownBlock ∧ (k_ ≠ gb457 ∧ (k_ ≠ gb458 ∧ k_ ≠ g440)))))) ∧ k_ ≠ gb467)) (n := t463.length) (c := co34) ?_).2.2; exact (by (with_reducible repeat (first | apply Kd.V_alloc | apply Kd.V_drewN | apply Kd.V_drew)); exact (Kd.V_fw3 HO465.out (fun _ hk => hk.2)))); (case side8 => exact (Kd.V_reads' HO465.out).2.1); rintro e w36 ⟨rfl, hb⟩; refine ⟨_, rfl, ?_⟩; replace HO444 := Aside0.mk (Kd.R_below (by (with_reducible repeat (first | apply Kd.R_alloc | apply Kd.R_drewN | apply Kd.R_drew)); exact (Kd.R_ft3 (Kd.R_types HO444.out BK467.out (by decide)))) hb); replace HO447 := Aside0.mk (Kd.R_below (by (with_reducible repeat (first | apply Kd.R_alloc | apply Kd.R_drewN | apply Kd.R_drew)); exact (Kd.R_fw3 HO447.out (fun _ hk => hk.2))) hb); replace HO452 := Aside0.mk (Kd.R_below (by (with_reducible repeat (first | apply Kd.R_alloc | apply Kd.R_drewN | apply Kd.R_drew)); exact (Kd.R_ft3 (Kd.R_types HO452.out BK467.out (by decide)))) hb); replace HO455 := Aside0.mk (Kd.R_below (by (with_reducible repeat (first | apply Kd.R_alloc | apply Kd.R_drewN | apply Kd.R_drew)); exact (Kd.R_fw3 HO455.out (fun _ hk => hk.2))) hb); replace HO462 := Aside0.mk (Kd.V_below (by (with_reducible repeat (first | apply Kd.V_alloc | apply Kd.V_drewN | apply Kd.V_drew)); exact (Kd.V_fw3 HO462.out (fun _ hk => hk.2))) hb); replace HO465 := Aside0.mk (Kd.V_below (by (with_reducible repeat (first | apply Kd.V_alloc | apply Kd.V_drewN | apply Kd.V_drew)); exact (Kd.V_fw3 HO465.out (fun _ hk => hk.2))) hb); replace HI440 := Aside0.mk (IsS44.below (show IsS44 w (((w28.setCell ⟨gb467, 0, none⟩ (.int .i64 t459)).setCell ⟨gb467, 1, none⟩ (.slice Ao33 t460.length co33)).setCell ⟨gb467, 2, none⟩ (.slice Ao34 t463.length co34)) g440 t438 t456 from iU HI440) hb); replace BK457 := Aside0.mk (blk_below (g := gb457) (o := .cells #[.int .i64 t441, .slice Ao21 t442.length co21, .slice Ao22 t445.length co22] 27 (0, 0)) (bF BK457) hb); replace BK458 := Aside0.mk (blk_below (g := gb458) (o := .cells #[.int .i64 t449, .slice Ao25 t450.length co25, .slice Ao26 t453.length co26] 27 (0, 0)) (bF BK458) hb); replace BK467 := Aside0.mk (blk_below (g := gb467) (o := .cells #[.int .i64 t459, .slice Ao33 t460.length co33, .slice Ao34 t463.length co34] 27 (0, 0)) (bP3 BK467) hb); replace HB := bs HB hb; (try clear hb); (try clear hb2); (try clear hk); (try clear hi); have hcz37_0 := bC0 BK457; have hcz37_1 := bC1 BK457; have hcz37_2 := bC2 BK457; have hfz37_0 := blk_frozen BK457.out 0; have hfz37_1 := blk_frozen BK457.out 1; have hfz37_2 := blk_frozen BK457.out 2; have hcz38_0 := bC0 BK458; have hcz38_1 := bC1 BK458; have hcz38_2 := bC2 BK458; have hfz38_0 := blk_frozen BK458.out 0; have hfz38_1 := blk_frozen BK458.out 1; have hfz38_2 := blk_frozen BK458.out 2) | ((with_reducible refine gate_callee (f := 18) rfl ?_); refine goesA_ (some 45) rfl rfl Try.func18 rfl #[.agg #[.int .i64 t441, .slice Ao21 t442.length co21, .slice Ao22 t445.length co22], .agg #[.int .i64 t449, .slice Ao25 t450.length co25, .slice Ao26 t453.length co26]] rfl ?_; (with_reducible refine (slices_Equivalent.calls k t441 _ _ t442 _ _ t445 t449 _ _ t450 _ _ t453 t471 t472 t473 _ ?side1 ?side2 ?side3 ?side4 ?side5 ?side6 ?side7 ?side8 A7.out).mono ?_); (case side1 => exact Kd.uC ((Kd.R_reads' HO444.out).2.2)); (case side2 => exact (Kd.R_reads' HO444.out).2.1); (case side3 => exact Kd.uC ((Kd.R_reads' HO447.out).2.2)); (case side4 => exact (Kd.R_reads' HO447.out).2.1); (case side5 => exact Kd.uC ((Kd.R_reads' HO452.out).2.2)); (case side6 => exact (Kd.R_reads' HO452.out).2.1); (case side7 => exact Kd.uC ((Kd.R_reads' HO455.out).2.2)); (case side8 => exact (Kd.R_reads' HO455.out).2.1); rintro e w39 ⟨rfl, hb⟩; refine ⟨_, rfl, ?_⟩; replace HO444 := Kd.bR HO444 hb; replace HO447 := Kd.bR HO447 hb; replace HO452 := Kd.bR HO452 hb; replace HO455 := Kd.bR HO455 hb; replace HO462 := Kd.bV HO462 hb; replace HO465 := Kd.bV HO465 hb; replace HI440 := Aside0.mk (IsS44.below (iU HI440) hb); replace BK457 := bb BK457 hb; replace BK458 := bb BK458 hb; replace BK467 := bb BK467 hb; replace HB := bs HB hb; (try clear hb); (try clear hb2); (try clear hk); (try clear hi); have hcz40_0 := bC0 BK457; have hcz40_1 := bC1 BK457; have hcz40_2 := bC2 BK457; have hfz40_0 := blk_frozen BK457.out 0; have hfz40_1 := blk_frozen BK457.out 1; have hfz40_2 := blk_frozen BK457.out 2; have hcz41_0 := bC0 BK458; have hcz41_1 := bC1 BK458; have hcz41_2 := bC2 BK458; have hfz41_0 := blk_frozen BK458.out 0; have hfz41_1 := blk_frozen BK458.out 1; have hfz41_2 := blk_frozen BK458.out 2) | ((with_reducible refine gate_callee (f := 19) rfl ?_); refine goesA_ (some 52) rfl rfl Try.func19 rfl #[.agg #[.int .i64 t441, .slice Ao21 t442.length co21, .slice Ao22 t445.length co22], .agg #[.int .i64 t449, .slice Ao25 t450.length co25, .slice Ao26 t453.length co26]] rfl ?_; (with_reducible refine (slices_Implies.calls k t441 _ _ t442 _ _ t445 t449 _ _ t450 _ _ t453 t474 t475 t476 _ ?side1 ?side2 ?side3 ?side4 ?side5 ?side6 ?side7 ?side8 A8.out).mono ?_); (case side1 => exact Kd.uC ((Kd.R_reads' HO444.out).2.2)); (case side2 => exact (Kd.R_reads' HO444.out).2.1); (case side3 => exact Kd.uC ((Kd.R_reads' HO447.out).2.2)); (case side4 => exact (Kd.R_reads' HO447.out).2.1); (case side5 => exact Kd.uC ((Kd.R_reads' HO452.out).2.2)); (case side6 => exact (Kd.R_reads' HO452.out).2.1); (case side7 => exact Kd.uC ((Kd.R_reads' HO455.out).2.2)); (case side8 => exact (Kd.R_reads' HO455.out).2.1); rintro e w42 ⟨rfl, hb⟩; refine ⟨_, rfl, ?_⟩; replace HO444 := Kd.bR HO444 hb; replace HO447 := Kd.bR HO447 hb; replace HO452 := Kd.bR HO452 hb; replace HO455 := Kd.bR HO455 hb; replace HO462 := Kd.bV HO462 hb; replace HO465 := Kd.bV HO465 hb; replace HI440 := Aside0.mk (IsS44.below (iU HI440) hb); replace BK457 := bb BK457 hb; replace BK458 := bb BK458 hb; replace BK467 := bb BK467 hb; replace HB := bs HB hb; (try clear hb); (try clear hb2); (try clear hk); (try clear hi); have hcz43_0 := bC0 BK458; have hcz43_1 := bC1 BK458; have hcz43_2 := bC2 BK458; have hfz43_0 := blk_frozen BK458.out 0; have hfz43_1 := blk_frozen BK458.out 1; have hfz43_2 := blk_frozen BK458.out 2; have hcz44_0 := bC0 BK457; have hcz44_1 := bC1 BK457; have hcz44_2 := bC2 BK457; have hfz44_0 := blk_frozen BK457.out 0; have hfz44_1 := blk_frozen BK457.out 1; have hfz44_2 := blk_frozen BK457.out 2) | ((with_reducible refine gate_callee (f := 19) rfl ?_); refine goesA_ (some 59) rfl rfl Try.func19 rfl #[.agg #[.int .i64 t449, .slice Ao25 t450.length co25, .slice Ao26 t453.length co26], .agg #[.int .i64 t441, .slice Ao21 t442.length co21, .slice Ao22 t445.length co22]] rfl ?_; (with_reducible refine (slices_Implies.calls k t449 _ _ t450 _ _ t453 t441 _ _ t442 _ _ t445 t477 t478 t479 _ ?side1 ?side2 ?side3 ?side4 ?side5 ?side6 ?side7 ?side8 A9.out).mono ?_); (case side1 => exact Kd.uC ((Kd.R_reads' HO452.out).2.2)); (case side2 => exact (Kd.R_reads' HO452.out).2.1); (case side3 => exact Kd.uC ((Kd.R_reads' HO455.out).2.2)); (case side4 => exact (Kd.R_reads' HO455.out).2.1); (case side5 => exact Kd.uC ((Kd.R_reads' HO444.out).2.2)); (case side6 => exact (Kd.R_reads' HO444.out).2.1); (case side7 => exact Kd.uC ((Kd.R_reads' HO447.out).2.2)); (case side8 => exact (Kd.R_reads' HO447.out).2.1); rintro e w45 ⟨rfl, hb⟩; refine ⟨_, rfl, ?_⟩; replace HO444 := Kd.bR HO444 hb; replace HO447 := Kd.bR HO447 hb; replace HO452 := Kd.bR HO452 hb; replace HO455 := Kd.bR HO455 hb; replace HO462 := Kd.bV HO462 hb; replace HO465 := Kd.bV HO465 hb; replace HI440 := Aside0.mk (IsS44.below (iU HI440) hb); replace BK457 := bb BK457 hb; replace BK458 := bb BK458 hb; replace BK467 := bb BK467 hb; replace HB := bs HB hb; (try clear hb); (try clear hb2); (try clear hk); (try clear hi); have hcz46_0 := bC0 BK457; have hcz46_1 := bC1 BK457; have hcz46_2 := bC2 BK457; have hfz46_0 := blk_frozen BK457.out 0; have hfz46_1 := blk_frozen BK457.out 1; have hfz46_2 := blk_frozen BK457.out 2) | ((with_reducible refine gate_callee (f := 9) rfl ?_); refine goesA_ (some 65) rfl rfl Try.func9 rfl #[.agg #[.int .i64 t441, .slice Ao21 t442.length co21, .slice Ao22 t445.length co22]] rfl ?_; (with_reducible refine (slices_Slices.calls k t441 _ _ t442 _ _ t445 t480 t483 _ ?side1 ?side2 ?side3 ?side4 A10.out).mono ?_); (case side1 => exact Kd.uC ((Kd.R_reads' HO444.out).2.2)); (case side2 => exact (Kd.R_reads' HO444.out).2.1); (case side3 => exact Kd.uC ((Kd.R_reads' HO447.out).2.2)); (case side4 => exact (Kd.R_reads' HO447.out).2.1); rintro e w47 ⟨v481, rfl, ho0, hb⟩; refine ⟨_, rfl, ?_⟩; replace HO447 := Aside0.mk (Kd.R_elder' (Kd.uR HO447) (Kd.R_base ho0) hb); replace HO455 := Aside0.mk (Kd.R_elder' (Kd.uR HO455) (Kd.R_base ho0) hb); replace HO462 := Aside0.mk (Kd.V_elder' (Kd.uV HO462) (Kd.R_base ho0) hb); replace HO465 := Aside0.mk (Kd.V_elder' (Kd.uV HO465) (Kd.R_base ho0) hb); have HO482 := Aside0.mk (Kd.R_lower (Kd.R_new' (Kd.R_new' ho0 (Kd.R_lt (Kd.uR HO444))) (Kd.R_lt (Kd.uR HO452))) (below_size (bB HB))); replace HO444 := Aside0.mk (Kd.R_elder' (Kd.uR HO444) (Kd.R_base ho0) hb); replace HO452 := Aside0.mk (Kd.R_elder' (Kd.uR HO452) (Kd.R_base ho0) hb); replace HI440 := Aside0.mk (IsS44.below (iU HI440) hb); replace BK457 := bb BK457 hb; replace BK458 := bb BK458 hb; replace BK467 := bb BK467 hb; replace HB := bs HB hb; (try clear hb); (try clear hb2); (try clear hk); (try clear hi); (try clear ho0); have hcz48_0 := bC0 BK458; have hcz48_1 := bC1 BK458; have hcz48_2 := bC2 BK458; have hfz48_0 := blk_frozen BK458.out 0; have hfz48_1 := blk_frozen BK458.out 1; have hfz48_2 := blk_frozen BK458.out 2) | ((with_reducible refine gate_callee (f := 9) rfl ?_); refine goesA_ (some 70) rfl rfl Try.func9 rfl #[.agg #[.int .i64 t449, .slice Ao25 t450.length co25, .slice Ao26 t453.length co26]] rfl ?_; (with_reducible refine (slices_Slices.calls k t449 _ _ t450 _ _ t453 t484 t487 _ ?side1 ?side2 ?side3 ?side4 A11.out).mono ?_); (case side1 => exact Kd.uC ((Kd.R_reads' HO452.out).2.2)); (case side2 => exact (Kd.R_reads' HO452.out).2.1); (case side3 => exact Kd.uC ((Kd.R_reads' HO455.out).2.2)); (case side4 => exact (Kd.R_reads' HO455.out).2.1); rintro e w49 ⟨v485, rfl, ho0, hb⟩; refine ⟨_, rfl, ?_⟩; replace HO447 := Aside0.mk (Kd.R_elder' (Kd.uR HO447) (Kd.R_base ho0) hb); replace HO455 := Aside0.mk (Kd.R_elder' (Kd.uR HO455) (Kd.R_base ho0) hb); replace HO462 := Aside0.mk (Kd.V_elder' (Kd.uV HO462) (Kd.R_base ho0) hb); replace HO465 := Aside0.mk (Kd.V_elder' (Kd.uV HO465) (Kd.R_base ho0) hb); have HO486 := Aside0.mk (Kd.R_lower (Kd.R_new' (Kd.R_new' (Kd.R_new' ho0 (Kd.R_lt (Kd.uR HO444))) (Kd.R_lt (Kd.uR HO452))) (Kd.R_lt (Kd.uR HO482))) (below_size (bB HB))); replace HO444 := Aside0.mk (Kd.R_elder' (Kd.uR HO444) (Kd.R_base ho0) hb); replace HO452 := Aside0.mk (Kd.R_elder' (Kd.uR HO452) (Kd.R_base ho0) hb); replace HO482 := Aside0.mk (Kd.R_elder' (Kd.uR HO482) (Kd.R_base ho0) hb); replace HI440 := Aside0.mk (IsS44.below (iU HI440) hb); replace BK457 := bb BK457 hb; replace BK458 := bb BK458 hb; replace BK467 := bb BK467 hb; replace HB := bs HB hb; (try clear hb); (try clear hb2); (try clear hk); (try clear hi); (try clear ho0)))
 (try simp only [Act.put, List.setIfInBounds_toArray, List.set_cons_zero, List.set_cons_succ])
 go_cut [113] (fun v113 wc => ∃ (kq : Nat) (x113_11 : Bool), v113 = .bool x113_11 ∧ Aside0 (trustquorumlaw05_SlicesEquivalent.j0 kq t471 t472 t474 t475 t477 t478 x113_11 t441 t442 t445 t449 t450 t453 = some r) ∧ Aside0 (kq ≤ k) ∧ Aside0 (Kd.R (Kd.int .i64) 3 wc w.heap.size (fun k_ => some k_ ≠ ((.slice Ao25 t450.length co25) : Value).ownBlock) (.slice Ao21 t442.length co21) t442) ∧ Aside0 (Kd.R k27 27 wc w.heap.size (fun k_ => some k_ ≠ ((.slice Ao21 t442.length co21) : Value).ownBlock ∧ some k_ ≠ ((.slice Ao25 t450.length co25) : Value).ownBlock ∧ some k_ ≠ ((.slice Ao26 t453.length co26) : Value).ownBlock ∧ k_ ≠ gb457 ∧ k_ ≠ gb458 ∧ k_ ≠ gb467) (.slice Ao22 t445.length co22) t445) ∧ Aside0 (Kd.R (Kd.int .i64) 3 wc w.heap.size (fun k_ => some k_ ≠ ((.slice Ao21 t442.length co21) : Value).ownBlock) (.slice Ao25 t450.length co25) t450) ∧ Aside0 (Kd.R k27 27 wc w.heap.size (fun k_ => some k_ ≠ ((.slice Ao21 t442.length co21) : Value).ownBlock ∧ some k_ ≠ ((.slice Ao22 t445.length co22) : Value).ownBlock ∧ some k_ ≠ ((.slice Ao25 t450.length co25) : Value).ownBlock ∧ k_ ≠ gb457 ∧ k_ ≠ gb458 ∧ k_ ≠ gb467) (.slice Ao26 t453.length co26) t453) ∧ Aside0 (Kd.V (Kd.int .i64) 3 wc w.heap.size (fun k_ => some k_ ≠ ((.slice Ao21 t442.length co21) : Value).ownBlock ∧ some k_ ≠ ((.slice Ao22 t445.length co22) : Value).ownBlock ∧ some k_ ≠ ((.slice Ao25 t450.length co25) : Value).ownBlock ∧ some k_ ≠ ((.slice Ao26 t453.length co26) : Value).ownBlock ∧ k_ ≠ gb457 ∧ k_ ≠ gb458 ∧ k_ ≠ gb467) (.slice Ao33 t460.length co33) t460) ∧ Aside0 (Kd.V k27 27 wc w.heap.size (fun k_ => some k_ ≠ ((.slice Ao21 t442.length co21) : Value).ownBlock ∧ some k_ ≠ ((.slice Ao22 t445.length co22) : Value).ownBlock ∧ some k_ ≠ ((.slice Ao25 t450.length co25) : Value).ownBlock ∧ some k_ ≠ ((.slice Ao26 t453.length co26) : Value).ownBlock ∧ k_ ≠ gb457 ∧ k_ ≠ gb458 ∧ k_ ≠ gb467) (.slice Ao34 t463.length co34) t463) ∧ Aside0 (wc.heap[gb457]? = some (.cells #[.int .i64 t441, (.slice Ao21 t442.length co21), (.slice Ao22 t445.length co22)] 27 (0, 0))) ∧ Aside0 (wc.heap[gb458]? = some (.cells #[.int .i64 t449, (.slice Ao25 t450.length co25), (.slice Ao26 t453.length co26)] 27 (0, 0))) ∧ Aside0 (wc.heap[gb467]? = some (.cells #[.int .i64 t459, (.slice Ao33 t460.length co33), (.slice Ao34 t463.length co34)] 27 (0, 0))) ∧ Aside0 (Below w.heap.size w wc))
 case first =>
  have H := HC12.out
  clear HC12
  by_cases c50 : t470 = 0
  ·rw [if_pos c50] at H
   have c50b0 : (t470 == 0) = true := beq_iff_eq.mpr c50
   have c50b1 : (t470 != 0) = false := bne_eq_false_iff_eq.mpr c50
   clear c50
   (first | rw [c50b0] | (simp only [i64_w, i32_w]; rw [c50b0]) | skip)
   by_cases c51 : t473 = 0
   ·rw [if_pos c51] at H
    have c51b0 : (t473 == 0) = true := beq_iff_eq.mpr c51
    have c51b1 : (t473 != 0) = false := bne_eq_false_iff_eq.mpr c51
    clear c51
    by_cases c52 : t476 = 0
    ·rw [if_pos c52] at H
     have c52b0 : (t476 == 0) = true := beq_iff_eq.mpr c52
     have c52b1 : (t476 != 0) = false := bne_eq_false_iff_eq.mpr c52
     clear c52
     by_cases c53 : t479 = 0
     ·rw [if_pos c53] at H
      have c53b0 : (t479 == 0) = true := beq_iff_eq.mpr c53
      have c53b1 : (t479 != 0) = false := bne_eq_false_iff_eq.mpr c53
      clear c53
      by_cases c54 : t483 = 0
      ·rw [if_pos c54] at H
       have c54b0 : (t483 == 0) = true := beq_iff_eq.mpr c54
       have c54b1 : (t483 != 0) = false := bne_eq_false_iff_eq.mpr c54
       clear c54
       by_cases c55 : t487 = 0
       ·rw [if_pos c55] at H
        have c55b0 : (t487 == 0) = true := beq_iff_eq.mpr c55
        have c55b1 : (t487 != 0) = false := bne_eq_false_iff_eq.mpr c55
        clear c55
        by_cases c56 : t468 = true
        ·subst c56
         have H1 : (if t474 = true then (if (t471 != t477) = true then (trustquorumlaw05_SlicesEquivalent.j0 k t471 t472 t474 t475 t477 t478 true t441 t442 t445 t449 t450 t453) else ((trustquorummake_Ints.f k t480 t484).bind fun t488 => (trustquorumlaw05_SlicesEquivalent.j0 k t471 t472 t474 t475 t477 t478 (t471 != t488) t441 t442 t445 t449 t450 t453))) else (if (t471 != false) = true then (trustquorumlaw05_SlicesEquivalent.j0 k t471 t472 t474 t475 t477 t478 true t441 t442 t445 t449 t450 t453) else ((trustquorummake_Ints.f k t480 t484).bind fun t489 => (trustquorumlaw05_SlicesEquivalent.j0 k t471 t472 t474 t475 t477 t478 (t471 != t489) t441 t442 t445 t449 t450 t453)))) = some r := by rw [if_pos rfl] at H; exact H
         clear H
         have H := H1
         clear H1
         by_cases c57 : t474 = true
         ·subst c57
          have H1 : (if (t471 != t477) = true then (trustquorumlaw05_SlicesEquivalent.j0 k t471 t472 true t475 t477 t478 true t441 t442 t445 t449 t450 t453) else ((trustquorummake_Ints.f k t480 t484).bind fun t488 => (trustquorumlaw05_SlicesEquivalent.j0 k t471 t472 true t475 t477 t478 (t471 != t488) t441 t442 t445 t449 t450 t453))) = some r := by rw [if_pos rfl] at H; exact H
          clear H
          have H := H1
          clear H1
          by_cases c58 : (t471 != t477) = true
          ·rw [if_pos c58] at H
           have c58b0 : (t471 != t477) = true := c58
           (try (have c58b1 : decide (t471 = t477) = false := by simpa using c58))
           (try (have c58b2 : (t471 == t477) = false := by simpa using c58))
           (try (have c58b3 : ¬ (t471 = t477) := by simpa using c58))
           clear c58
           have H' := Aside0.mk H
           clear H
           go_wp2
           go_meet
           case rel => exact ⟨_, (true), (by first | rfl | (simp; done) | (simp [*]; done)), H', ⟨by first | omega | exact Nat.le_refl _⟩, ⟨by (with_reducible repeat (first | apply Kd.R_alloc | apply Kd.R_drewN | apply Kd.R_drew)); exact Kd.R_mono HO444.out (fun _ hk => hk.1.1.2)⟩, ⟨by (with_reducible repeat (first | apply Kd.R_alloc | apply Kd.R_drewN | apply Kd.R_drew)); exact Kd.R_mono HO447.out (fun _ hk => ⟨hk.1.1.1.1.1.1.1, ⟨hk.1.1.1.1.1.1.2, ⟨hk.1.1.1.1.1.2, ⟨hk.1.1.1.1.2, ⟨hk.1.1.1.2, hk.1.1.2⟩⟩⟩⟩⟩)⟩, ⟨by (with_reducible repeat (first | apply Kd.R_alloc | apply Kd.R_drewN | apply Kd.R_drew)); exact Kd.R_mono HO452.out (fun _ hk => hk.1.1.2)⟩, ⟨by (with_reducible repeat (first | apply Kd.R_alloc | apply Kd.R_drewN | apply Kd.R_drew)); exact Kd.R_mono HO455.out (fun _ hk => ⟨hk.1.1.1.1.1.1.2, ⟨hk.1.1.1.1.1.2, ⟨hk.1.1.1.1.1.1.1, ⟨hk.1.1.1.1.2, ⟨hk.1.1.1.2, hk.1.1.2⟩⟩⟩⟩⟩)⟩, ⟨by (with_reducible repeat (first | apply Kd.V_alloc | apply Kd.V_drewN | apply Kd.V_drew)); exact Kd.V_mono HO462.out (fun _ hk => ⟨hk.1.1.1.1, ⟨hk.1.1.1.2.1, ⟨hk.1.1.1.2.2.1, ⟨hk.1.1.1.2.2.2.1, ⟨hk.1.1.1.2.2.2.2.1, ⟨hk.1.1.1.2.2.2.2.2.1, hk.1.1.2⟩⟩⟩⟩⟩⟩)⟩, ⟨by (with_reducible repeat (first | apply Kd.V_alloc | apply Kd.V_drewN | apply Kd.V_drew)); exact Kd.V_mono HO465.out (fun _ hk => ⟨hk.1.1.1.1, ⟨hk.1.1.1.2.1, ⟨hk.1.1.1.2.2.1, ⟨hk.1.1.1.2.2.2.1, ⟨hk.1.1.1.2.2.2.2.1, ⟨hk.1.1.1.2.2.2.2.2.1, hk.1.1.2⟩⟩⟩⟩⟩⟩)⟩, ⟨bU BK457⟩, ⟨bU BK458⟩, ⟨bU BK467⟩, ⟨bB HB⟩⟩
          ·rw [if_neg c58] at H
           have c58b0 : (t471 != t477) = false := by simpa using c58
           (try (have c58b1 : decide (t471 = t477) = true := by simpa using c58))
           (try (have c58b2 : (t471 == t477) = true := by simpa using c58))
           clear c58
           replace H := Option.bind_eq_some_iff.mp H
           obtain ⟨t488, A590, H⟩ := H
           replace H : (trustquorumlaw05_SlicesEquivalent.j0 k t471 t472 true t475 t477 t478 (t471 != t488) t441 t442 t445 t449 t450 t453) = some r := H
           have A59 := Aside0.mk A590
           clear A590
           have H' := Aside0.mk H
           clear H
           obtain ⟨Ao60, co60, eo60⟩ := Kd.R_slice HO482.out
           subst eo60
           obtain ⟨Ao61, co61, eo61⟩ := Kd.R_slice HO486.out
           subst eo61
           go_wp2_with (first | (go_at_call 16; (with_reducible refine (trustquorummake_Ints.calls k _ _ t480 _ _ t484 t488 _ ?side1 ?side2 ?side3 ?side4 A59.out).mono ?_); (case side1 => exact Kd.uC ((Kd.R_reads' HO482.out).2.2)); (case side2 => exact (Kd.R_reads' HO482.out).2.1); (case side3 => exact Kd.uC ((Kd.R_reads' HO486.out).2.2)); (case side4 => exact (Kd.R_reads' HO486.out).2.1); rintro e w' ⟨rfl, ⟨nd, rfl⟩⟩))
           go_meet
           case rel => exact ⟨_, ((t471 != t488)), (by first | rfl | (simp; done) | (simp [*]; done)), H', ⟨by first | omega | exact Nat.le_refl _⟩, ⟨by (with_reducible repeat (first | apply Kd.R_alloc | apply Kd.R_drewN | apply Kd.R_drew)); exact Kd.R_mono HO444.out (fun _ hk => hk.1.1.2)⟩, ⟨by (with_reducible repeat (first | apply Kd.R_alloc | apply Kd.R_drewN | apply Kd.R_drew)); exact Kd.R_mono HO447.out (fun _ hk => ⟨hk.1.1.1.1.1.1.1, ⟨hk.1.1.1.1.1.1.2, ⟨hk.1.1.1.1.1.2, ⟨hk.1.1.1.1.2, ⟨hk.1.1.1.2, hk.1.1.2⟩⟩⟩⟩⟩)⟩, ⟨by (with_reducible repeat (first | apply Kd.R_alloc | apply Kd.R_drewN | apply Kd.R_drew)); exact Kd.R_mono HO452.out (fun _ hk => hk.1.1.2)⟩, ⟨by (with_reducible repeat (first | apply Kd.R_alloc | apply Kd.R_drewN | apply Kd.R_drew)); exact Kd.R_mono HO455.out (fun _ hk => ⟨hk.1.1.1.1.1.1.2, ⟨hk.1.1.1.1.1.2, ⟨hk.1.1.1.1.1.1.1, ⟨hk.1.1.1.1.2, ⟨hk.1.1.1.2, hk.1.1.2⟩⟩⟩⟩⟩)⟩, ⟨by (with_reducible repeat (first | apply Kd.V_alloc | apply Kd.V_drewN | apply Kd.V_drew)); exact Kd.V_mono HO462.out (fun _ hk => ⟨hk.1.1.1.1, ⟨hk.1.1.1.2.1, ⟨hk.1.1.1.2.2.1, ⟨hk.1.1.1.2.2.2.1, ⟨hk.1.1.1.2.2.2.2.1, ⟨hk.1.1.1.2.2.2.2.2.1, hk.1.1.2⟩⟩⟩⟩⟩⟩)⟩, ⟨by (with_reducible repeat (first | apply Kd.V_alloc | apply Kd.V_drewN | apply Kd.V_drew)); exact Kd.V_mono HO465.out (fun _ hk => ⟨hk.1.1.1.1, ⟨hk.1.1.1.2.1, ⟨hk.1.1.1.2.2.1, ⟨hk.1.1.1.2.2.2.1, ⟨hk.1.1.1.2.2.2.2.1, ⟨hk.1.1.1.2.2.2.2.2.1, hk.1.1.2⟩⟩⟩⟩⟩⟩)⟩, ⟨bU BK457⟩, ⟨bU BK458⟩, ⟨bU BK467⟩, ⟨bB HB⟩⟩
         ·replace c57 := Bool.eq_false_iff.mpr c57
          subst c57
          have H1 : (if (t471 != false) = true then (trustquorumlaw05_SlicesEquivalent.j0 k t471 t472 false t475 t477 t478 true t441 t442 t445 t449 t450 t453) else ((trustquorummake_Ints.f k t480 t484).bind fun t489 => (trustquorumlaw05_SlicesEquivalent.j0 k t471 t472 false t475 t477 t478 (t471 != t489) t441 t442 t445 t449 t450 t453))) = some r := by rw [if_neg (show ¬ (false = true) by decide)] at H; exact H
          clear H
          have H := H1
          clear H1
          by_cases c62 : (t471 != false) = true
          ·rw [if_pos c62] at H
           have c62b0 : (t471 != false) = true := c62
           (try (have c62b1 : decide (t471 = false) = false := by simpa using c62))
           (try (have c62b2 : (t471 == false) = false := by simpa using c62))
           (try (have c62b3 : ¬ (t471 = false) := by simpa using c62))
           clear c62
           have H' := Aside0.mk H
           clear H
           go_wp2
           go_meet
           case rel => exact ⟨_, (true), (by first | rfl | (simp; done) | (simp [*]; done)), H', ⟨by first | omega | exact Nat.le_refl _⟩, ⟨by (with_reducible repeat (first | apply Kd.R_alloc | apply Kd.R_drewN | apply Kd.R_drew)); exact Kd.R_mono HO444.out (fun _ hk => hk.1.1.2)⟩, ⟨by (with_reducible repeat (first | apply Kd.R_alloc | apply Kd.R_drewN | apply Kd.R_drew)); exact Kd.R_mono HO447.out (fun _ hk => ⟨hk.1.1.1.1.1.1.1, ⟨hk.1.1.1.1.1.1.2, ⟨hk.1.1.1.1.1.2, ⟨hk.1.1.1.1.2, ⟨hk.1.1.1.2, hk.1.1.2⟩⟩⟩⟩⟩)⟩, ⟨by (with_reducible repeat (first | apply Kd.R_alloc | apply Kd.R_drewN | apply Kd.R_drew)); exact Kd.R_mono HO452.out (fun _ hk => hk.1.1.2)⟩, ⟨by (with_reducible repeat (first | apply Kd.R_alloc | apply Kd.R_drewN | apply Kd.R_drew)); exact Kd.R_mono HO455.out (fun _ hk => ⟨hk.1.1.1.1.1.1.2, ⟨hk.1.1.1.1.1.2, ⟨hk.1.1.1.1.1.1.1, ⟨hk.1.1.1.1.2, ⟨hk.1.1.1.2, hk.1.1.2⟩⟩⟩⟩⟩)⟩, ⟨by (with_reducible repeat (first | apply Kd.V_alloc | apply Kd.V_drewN | apply Kd.V_drew)); exact Kd.V_mono HO462.out (fun _ hk => ⟨hk.1.1.1.1, ⟨hk.1.1.1.2.1, ⟨hk.1.1.1.2.2.1, ⟨hk.1.1.1.2.2.2.1, ⟨hk.1.1.1.2.2.2.2.1, ⟨hk.1.1.1.2.2.2.2.2.1, hk.1.1.2⟩⟩⟩⟩⟩⟩)⟩, ⟨by (with_reducible repeat (first | apply Kd.V_alloc | apply Kd.V_drewN | apply Kd.V_drew)); exact Kd.V_mono HO465.out (fun _ hk => ⟨hk.1.1.1.1, ⟨hk.1.1.1.2.1, ⟨hk.1.1.1.2.2.1, ⟨hk.1.1.1.2.2.2.1, ⟨hk.1.1.1.2.2.2.2.1, ⟨hk.1.1.1.2.2.2.2.2.1, hk.1.1.2⟩⟩⟩⟩⟩⟩)⟩, ⟨bU BK457⟩, ⟨bU BK458⟩, ⟨bU BK467⟩, ⟨bB HB⟩⟩
          ·rw [if_neg c62] at H
           have c62b0 : (t471 != false) = false := by simpa using c62
           (try (have c62b1 : decide (t471 = false) = true := by simpa using c62))
           (try (have c62b2 : (t471 == false) = true := by simpa using c62))
           clear c62
           replace H := Option.bind_eq_some_iff.mp H
           obtain ⟨t489, A630, H⟩ := H
           replace H : (trustquorumlaw05_SlicesEquivalent.j0 k t471 t472 false t475 t477 t478 (t471 != t489) t441 t442 t445 t449 t450 t453) = some r := H
           have A63 := Aside0.mk A630
           clear A630
           have H' := Aside0.mk H
           clear H
           obtain ⟨Ao64, co64, eo64⟩ := Kd.R_slice HO482.out
           subst eo64
           obtain ⟨Ao65, co65, eo65⟩ := Kd.R_slice HO486.out
           subst eo65
           go_wp2_with (first | (go_at_call 16; (with_reducible refine (trustquorummake_Ints.calls k _ _ t480 _ _ t484 t489 _ ?side1 ?side2 ?side3 ?side4 A63.out).mono ?_); (case side1 => exact Kd.uC ((Kd.R_reads' HO482.out).2.2)); (case side2 => exact (Kd.R_reads' HO482.out).2.1); (case side3 => exact Kd.uC ((Kd.R_reads' HO486.out).2.2)); (case side4 => exact (Kd.R_reads' HO486.out).2.1); rintro e w' ⟨rfl, ⟨nd, rfl⟩⟩))
           go_meet
           case rel => exact ⟨_, ((t471 != t489)), (by first | rfl | (simp; done) | (simp [*]; done)), H', ⟨by first | omega | exact Nat.le_refl _⟩, ⟨by (with_reducible repeat (first | apply Kd.R_alloc | apply Kd.R_drewN | apply Kd.R_drew)); exact Kd.R_mono HO444.out (fun _ hk => hk.1.1.2)⟩, ⟨by (with_reducible repeat (first | apply Kd.R_alloc | apply Kd.R_drewN | apply Kd.R_drew)); exact Kd.R_mono HO447.out (fun _ hk => ⟨hk.1.1.1.1.1.1.1, ⟨hk.1.1.1.1.1.1.2, ⟨hk.1.1.1.1.1.2, ⟨hk.1.1.1.1.2, ⟨hk.1.1.1.2, hk.1.1.2⟩⟩⟩⟩⟩)⟩, ⟨by (with_reducible repeat (first | apply Kd.R_alloc | apply Kd.R_drewN | apply Kd.R_drew)); exact Kd.R_mono HO452.out (fun _ hk => hk.1.1.2)⟩, ⟨by (with_reducible repeat (first | apply Kd.R_alloc | apply Kd.R_drewN | apply Kd.R_drew)); exact Kd.R_mono HO455.out (fun _ hk => ⟨hk.1.1.1.1.1.1.2, ⟨hk.1.1.1.1.1.2, ⟨hk.1.1.1.1.1.1.1, ⟨hk.1.1.1.1.2, ⟨hk.1.1.1.2, hk.1.1.2⟩⟩⟩⟩⟩)⟩, ⟨by (with_reducible repeat (first | apply Kd.V_alloc | apply Kd.V_drewN | apply Kd.V_drew)); exact Kd.V_mono HO462.out (fun _ hk => ⟨hk.1.1.1.1, ⟨hk.1.1.1.2.1, ⟨hk.1.1.1.2.2.1, ⟨hk.1.1.1.2.2.2.1, ⟨hk.1.1.1.2.2.2.2.1, ⟨hk.1.1.1.2.2.2.2.2.1, hk.1.1.2⟩⟩⟩⟩⟩⟩)⟩, ⟨by (with_reducible repeat (first | apply Kd.V_alloc | apply Kd.V_drewN | apply Kd.V_drew)); exact Kd.V_mono HO465.out (fun _ hk => ⟨hk.1.1.1.1, ⟨hk.1.1.1.2.1, ⟨hk.1.1.1.2.2.1, ⟨hk.1.1.1.2.2.2.1, ⟨hk.1.1.1.2.2.2.2.1, ⟨hk.1.1.1.2.2.2.2.2.1, hk.1.1.2⟩⟩⟩⟩⟩⟩)⟩, ⟨bU BK457⟩, ⟨bU BK458⟩, ⟨bU BK467⟩, ⟨bB HB⟩⟩
        ·replace c56 := Bool.eq_false_iff.mpr c56
         subst c56
         have H1 : (trustquorumlaw05_SlicesEquivalent.j0 k t471 t472 t474 t475 t477 t478 true t441 t442 t445 t449 t450 t453) = some r := by rw [if_neg (show ¬ (false = true) by decide)] at H; exact H
         clear H
         have H := H1
         clear H1
         have H' := Aside0.mk H
         clear H
         go_wp2
         go_meet
         case rel => exact ⟨_, (true), (by first | rfl | (simp; done) | (simp [*]; done)), H', ⟨by first | omega | exact Nat.le_refl _⟩, ⟨by (with_reducible repeat (first | apply Kd.R_alloc | apply Kd.R_drewN | apply Kd.R_drew)); exact Kd.R_mono HO444.out (fun _ hk => hk.1.1.2)⟩, ⟨by (with_reducible repeat (first | apply Kd.R_alloc | apply Kd.R_drewN | apply Kd.R_drew)); exact Kd.R_mono HO447.out (fun _ hk => ⟨hk.1.1.1.1.1.1.1, ⟨hk.1.1.1.1.1.1.2, ⟨hk.1.1.1.1.1.2, ⟨hk.1.1.1.1.2, ⟨hk.1.1.1.2, hk.1.1.2⟩⟩⟩⟩⟩)⟩, ⟨by (with_reducible repeat (first | apply Kd.R_alloc | apply Kd.R_drewN | apply Kd.R_drew)); exact Kd.R_mono HO452.out (fun _ hk => hk.1.1.2)⟩, ⟨by (with_reducible repeat (first | apply Kd.R_alloc | apply Kd.R_drewN | apply Kd.R_drew)); exact Kd.R_mono HO455.out (fun _ hk => ⟨hk.1.1.1.1.1.1.2, ⟨hk.1.1.1.1.1.2, ⟨hk.1.1.1.1.1.1.1, ⟨hk.1.1.1.1.2, ⟨hk.1.1.1.2, hk.1.1.2⟩⟩⟩⟩⟩)⟩, ⟨by (with_reducible repeat (first | apply Kd.V_alloc | apply Kd.V_drewN | apply Kd.V_drew)); exact Kd.V_mono HO462.out (fun _ hk => ⟨hk.1.1.1.1, ⟨hk.1.1.1.2.1, ⟨hk.1.1.1.2.2.1, ⟨hk.1.1.1.2.2.2.1, ⟨hk.1.1.1.2.2.2.2.1, ⟨hk.1.1.1.2.2.2.2.2.1, hk.1.1.2⟩⟩⟩⟩⟩⟩)⟩, ⟨by (with_reducible repeat (first | apply Kd.V_alloc | apply Kd.V_drewN | apply Kd.V_drew)); exact Kd.V_mono HO465.out (fun _ hk => ⟨hk.1.1.1.1, ⟨hk.1.1.1.2.1, ⟨hk.1.1.1.2.2.1, ⟨hk.1.1.1.2.2.2.1, ⟨hk.1.1.1.2.2.2.2.1, ⟨hk.1.1.1.2.2.2.2.2.1, hk.1.1.2⟩⟩⟩⟩⟩⟩)⟩, ⟨bU BK457⟩, ⟨bU BK458⟩, ⟨bU BK467⟩, ⟨bB HB⟩⟩
       ·rw [if_neg c55] at H
        have c55b0 : (t487 == 0) = false := beq_eq_false_iff_ne.mpr c55
        have c55b1 : (t487 != 0) = true := bne_iff_ne.mpr c55
        have H' := Aside0.mk H
        clear H
        go_wp2
        go_meet
        case rel => exact ⟨_, (true), (by first | rfl | (simp; done) | (simp [*]; done)), H', ⟨by first | omega | exact Nat.le_refl _⟩, ⟨by (with_reducible repeat (first | apply Kd.R_alloc | apply Kd.R_drewN | apply Kd.R_drew)); exact Kd.R_mono HO444.out (fun _ hk => hk.1.1.2)⟩, ⟨by (with_reducible repeat (first | apply Kd.R_alloc | apply Kd.R_drewN | apply Kd.R_drew)); exact Kd.R_mono HO447.out (fun _ hk => ⟨hk.1.1.1.1.1.1.1, ⟨hk.1.1.1.1.1.1.2, ⟨hk.1.1.1.1.1.2, ⟨hk.1.1.1.1.2, ⟨hk.1.1.1.2, hk.1.1.2⟩⟩⟩⟩⟩)⟩, ⟨by (with_reducible repeat (first | apply Kd.R_alloc | apply Kd.R_drewN | apply Kd.R_drew)); exact Kd.R_mono HO452.out (fun _ hk => hk.1.1.2)⟩, ⟨by (with_reducible repeat (first | apply Kd.R_alloc | apply Kd.R_drewN | apply Kd.R_drew)); exact Kd.R_mono HO455.out (fun _ hk => ⟨hk.1.1.1.1.1.1.2, ⟨hk.1.1.1.1.1.2, ⟨hk.1.1.1.1.1.1.1, ⟨hk.1.1.1.1.2, ⟨hk.1.1.1.2, hk.1.1.2⟩⟩⟩⟩⟩)⟩, ⟨by (with_reducible repeat (first | apply Kd.V_alloc | apply Kd.V_drewN | apply Kd.V_drew)); exact Kd.V_mono HO462.out (fun _ hk => ⟨hk.1.1.1.1, ⟨hk.1.1.1.2.1, ⟨hk.1.1.1.2.2.1, ⟨hk.1.1.1.2.2.2.1, ⟨hk.1.1.1.2.2.2.2.1, ⟨hk.1.1.1.2.2.2.2.2.1, hk.1.1.2⟩⟩⟩⟩⟩⟩)⟩, ⟨by (with_reducible repeat (first | apply Kd.V_alloc | apply Kd.V_drewN | apply Kd.V_drew)); exact Kd.V_mono HO465.out (fun _ hk => ⟨hk.1.1.1.1, ⟨hk.1.1.1.2.1, ⟨hk.1.1.1.2.2.1, ⟨hk.1.1.1.2.2.2.1, ⟨hk.1.1.1.2.2.2.2.1, ⟨hk.1.1.1.2.2.2.2.2.1, hk.1.1.2⟩⟩⟩⟩⟩⟩)⟩, ⟨bU BK457⟩, ⟨bU BK458⟩, ⟨bU BK467⟩, ⟨bB HB⟩⟩
      ·rw [if_neg c54] at H
       have c54b0 : (t483 == 0) = false := beq_eq_false_iff_ne.mpr c54
       have c54b1 : (t483 != 0) = true := bne_iff_ne.mpr c54
       have H' := Aside0.mk H
       clear H
       go_wp2
       go_meet
       case rel => exact ⟨_, (true), (by first | rfl | (simp; done) | (simp [*]; done)), H', ⟨by first | omega | exact Nat.le_refl _⟩, ⟨by (with_reducible repeat (first | apply Kd.R_alloc | apply Kd.R_drewN | apply Kd.R_drew)); exact Kd.R_mono HO444.out (fun _ hk => hk.1.1.2)⟩, ⟨by (with_reducible repeat (first | apply Kd.R_alloc | apply Kd.R_drewN | apply Kd.R_drew)); exact Kd.R_mono HO447.out (fun _ hk => ⟨hk.1.1.1.1.1.1.1, ⟨hk.1.1.1.1.1.1.2, ⟨hk.1.1.1.1.1.2, ⟨hk.1.1.1.1.2, ⟨hk.1.1.1.2, hk.1.1.2⟩⟩⟩⟩⟩)⟩, ⟨by (with_reducible repeat (first | apply Kd.R_alloc | apply Kd.R_drewN | apply Kd.R_drew)); exact Kd.R_mono HO452.out (fun _ hk => hk.1.1.2)⟩, ⟨by (with_reducible repeat (first | apply Kd.R_alloc | apply Kd.R_drewN | apply Kd.R_drew)); exact Kd.R_mono HO455.out (fun _ hk => ⟨hk.1.1.1.1.1.1.2, ⟨hk.1.1.1.1.1.2, ⟨hk.1.1.1.1.1.1.1, ⟨hk.1.1.1.1.2, ⟨hk.1.1.1.2, hk.1.1.2⟩⟩⟩⟩⟩)⟩, ⟨by (with_reducible repeat (first | apply Kd.V_alloc | apply Kd.V_drewN | apply Kd.V_drew)); exact Kd.V_mono HO462.out (fun _ hk => ⟨hk.1.1.1.1, ⟨hk.1.1.1.2.1, ⟨hk.1.1.1.2.2.1, ⟨hk.1.1.1.2.2.2.1, ⟨hk.1.1.1.2.2.2.2.1, ⟨hk.1.1.1.2.2.2.2.2.1, hk.1.1.2⟩⟩⟩⟩⟩⟩)⟩, ⟨by (with_reducible repeat (first | apply Kd.V_alloc | apply Kd.V_drewN | apply Kd.V_drew)); exact Kd.V_mono HO465.out (fun _ hk => ⟨hk.1.1.1.1, ⟨hk.1.1.1.2.1, ⟨hk.1.1.1.2.2.1, ⟨hk.1.1.1.2.2.2.1, ⟨hk.1.1.1.2.2.2.2.1, ⟨hk.1.1.1.2.2.2.2.2.1, hk.1.1.2⟩⟩⟩⟩⟩⟩)⟩, ⟨bU BK457⟩, ⟨bU BK458⟩, ⟨bU BK467⟩, ⟨bB HB⟩⟩
     ·rw [if_neg c53] at H
      have c53b0 : (t479 == 0) = false := beq_eq_false_iff_ne.mpr c53
      have c53b1 : (t479 != 0) = true := bne_iff_ne.mpr c53
      have H' := Aside0.mk H
      clear H
      go_wp2
      go_meet
      case rel => exact ⟨_, (true), (by first | rfl | (simp; done) | (simp [*]; done)), H', ⟨by first | omega | exact Nat.le_refl _⟩, ⟨by (with_reducible repeat (first | apply Kd.R_alloc | apply Kd.R_drewN | apply Kd.R_drew)); exact Kd.R_mono HO444.out (fun _ hk => hk.1.1.2)⟩, ⟨by (with_reducible repeat (first | apply Kd.R_alloc | apply Kd.R_drewN | apply Kd.R_drew)); exact Kd.R_mono HO447.out (fun _ hk => ⟨hk.1.1.1.1.1.1.1, ⟨hk.1.1.1.1.1.1.2, ⟨hk.1.1.1.1.1.2, ⟨hk.1.1.1.1.2, ⟨hk.1.1.1.2, hk.1.1.2⟩⟩⟩⟩⟩)⟩, ⟨by (with_reducible repeat (first | apply Kd.R_alloc | apply Kd.R_drewN | apply Kd.R_drew)); exact Kd.R_mono HO452.out (fun _ hk => hk.1.1.2)⟩, ⟨by (with_reducible repeat (first | apply Kd.R_alloc | apply Kd.R_drewN | apply Kd.R_drew)); exact Kd.R_mono HO455.out (fun _ hk => ⟨hk.1.1.1.1.1.1.2, ⟨hk.1.1.1.1.1.2, ⟨hk.1.1.1.1.1.1.1, ⟨hk.1.1.1.1.2, ⟨hk.1.1.1.2, hk.1.1.2⟩⟩⟩⟩⟩)⟩, ⟨by (with_reducible repeat (first | apply Kd.V_alloc | apply Kd.V_drewN | apply Kd.V_drew)); exact Kd.V_mono HO462.out (fun _ hk => ⟨hk.1.1.1.1, ⟨hk.1.1.1.2.1, ⟨hk.1.1.1.2.2.1, ⟨hk.1.1.1.2.2.2.1, ⟨hk.1.1.1.2.2.2.2.1, ⟨hk.1.1.1.2.2.2.2.2.1, hk.1.1.2⟩⟩⟩⟩⟩⟩)⟩, ⟨by (with_reducible repeat (first | apply Kd.V_alloc | apply Kd.V_drewN | apply Kd.V_drew)); exact Kd.V_mono HO465.out (fun _ hk => ⟨hk.1.1.1.1, ⟨hk.1.1.1.2.1, ⟨hk.1.1.1.2.2.1, ⟨hk.1.1.1.2.2.2.1, ⟨hk.1.1.1.2.2.2.2.1, ⟨hk.1.1.1.2.2.2.2.2.1, hk.1.1.2⟩⟩⟩⟩⟩⟩)⟩, ⟨bU BK457⟩, ⟨bU BK458⟩, ⟨bU BK467⟩, ⟨bB HB⟩⟩
    ·rw [if_neg c52] at H
     have c52b0 : (t476 == 0) = false := beq_eq_false_iff_ne.mpr c52
     have c52b1 : (t476 != 0) = true := bne_iff_ne.mpr c52
     have H' := Aside0.mk H
     clear H
     go_wp2
     go_meet
     case rel => exact ⟨_, (true), (by first | rfl | (simp; done) | (simp [*]; done)), H', ⟨by first | omega | exact Nat.le_refl _⟩, ⟨by (with_reducible repeat (first | apply Kd.R_alloc | apply Kd.R_drewN | apply Kd.R_drew)); exact Kd.R_mono HO444.out (fun _ hk => hk.1.1.2)⟩, ⟨by (with_reducible repeat (first | apply Kd.R_alloc | apply Kd.R_drewN | apply Kd.R_drew)); exact Kd.R_mono HO447.out (fun _ hk => ⟨hk.1.1.1.1.1.1.1, ⟨hk.1.1.1.1.1.1.2, ⟨hk.1.1.1.1.1.2, ⟨hk.1.1.1.1.2, ⟨hk.1.1.1.2, hk.1.1.2⟩⟩⟩⟩⟩)⟩, ⟨by (with_reducible repeat (first | apply Kd.R_alloc | apply Kd.R_drewN | apply Kd.R_drew)); exact Kd.R_mono HO452.out (fun _ hk => hk.1.1.2)⟩, ⟨by (with_reducible repeat (first | apply Kd.R_alloc | apply Kd.R_drewN | apply Kd.R_drew)); exact Kd.R_mono HO455.out (fun _ hk => ⟨hk.1.1.1.1.1.1.2, ⟨hk.1.1.1.1.1.2, ⟨hk.1.1.1.1.1.1.1, ⟨hk.1.1.1.1.2, ⟨hk.1.1.1.2, hk.1.1.2⟩⟩⟩⟩⟩)⟩, ⟨by (with_reducible repeat (first | apply Kd.V_alloc | apply Kd.V_drewN | apply Kd.V_drew)); exact Kd.V_mono HO462.out (fun _ hk => ⟨hk.1.1.1.1, ⟨hk.1.1.1.2.1, ⟨hk.1.1.1.2.2.1, ⟨hk.1.1.1.2.2.2.1, ⟨hk.1.1.1.2.2.2.2.1, ⟨hk.1.1.1.2.2.2.2.2.1, hk.1.1.2⟩⟩⟩⟩⟩⟩)⟩, ⟨by (with_reducible repeat (first | apply Kd.V_alloc | apply Kd.V_drewN | apply Kd.V_drew)); exact Kd.V_mono HO465.out (fun _ hk => ⟨hk.1.1.1.1, ⟨hk.1.1.1.2.1, ⟨hk.1.1.1.2.2.1, ⟨hk.1.1.1.2.2.2.1, ⟨hk.1.1.1.2.2.2.2.1, ⟨hk.1.1.1.2.2.2.2.2.1, hk.1.1.2⟩⟩⟩⟩⟩⟩)⟩, ⟨bU BK457⟩, ⟨bU BK458⟩, ⟨bU BK467⟩, ⟨bB HB⟩⟩
   ·rw [if_neg c51] at H
    have c51b0 : (t473 == 0) = false := beq_eq_false_iff_ne.mpr c51
    have c51b1 : (t473 != 0) = true := bne_iff_ne.mpr c51
    have H' := Aside0.mk H
    clear H
    go_wp2
    go_meet
    case rel => exact ⟨_, (true), (by first | rfl | (simp; done) | (simp [*]; done)), H', ⟨by first | omega | exact Nat.le_refl _⟩, ⟨by (with_reducible repeat (first | apply Kd.R_alloc | apply Kd.R_drewN | apply Kd.R_drew)); exact Kd.R_mono HO444.out (fun _ hk => hk.1.1.2)⟩, ⟨by (with_reducible repeat (first | apply Kd.R_alloc | apply Kd.R_drewN | apply Kd.R_drew)); exact Kd.R_mono HO447.out (fun _ hk => ⟨hk.1.1.1.1.1.1.1, ⟨hk.1.1.1.1.1.1.2, ⟨hk.1.1.1.1.1.2, ⟨hk.1.1.1.1.2, ⟨hk.1.1.1.2, hk.1.1.2⟩⟩⟩⟩⟩)⟩, ⟨by (with_reducible repeat (first | apply Kd.R_alloc | apply Kd.R_drewN | apply Kd.R_drew)); exact Kd.R_mono HO452.out (fun _ hk => hk.1.1.2)⟩, ⟨by (with_reducible repeat (first | apply Kd.R_alloc | apply Kd.R_drewN | apply Kd.R_drew)); exact Kd.R_mono HO455.out (fun _ hk => ⟨hk.1.1.1.1.1.1.2, ⟨hk.1.1.1.1.1.2, ⟨hk.1.1.1.1.1.1.1, ⟨hk.1.1.1.1.2, ⟨hk.1.1.1.2, hk.1.1.2⟩⟩⟩⟩⟩)⟩, ⟨by (with_reducible repeat (first | apply Kd.V_alloc | apply Kd.V_drewN | apply Kd.V_drew)); exact Kd.V_mono HO462.out (fun _ hk => ⟨hk.1.1.1.1, ⟨hk.1.1.1.2.1, ⟨hk.1.1.1.2.2.1, ⟨hk.1.1.1.2.2.2.1, ⟨hk.1.1.1.2.2.2.2.1, ⟨hk.1.1.1.2.2.2.2.2.1, hk.1.1.2⟩⟩⟩⟩⟩⟩)⟩, ⟨by (with_reducible repeat (first | apply Kd.V_alloc | apply Kd.V_drewN | apply Kd.V_drew)); exact Kd.V_mono HO465.out (fun _ hk => ⟨hk.1.1.1.1, ⟨hk.1.1.1.2.1, ⟨hk.1.1.1.2.2.1, ⟨hk.1.1.1.2.2.2.1, ⟨hk.1.1.1.2.2.2.2.1, ⟨hk.1.1.1.2.2.2.2.2.1, hk.1.1.2⟩⟩⟩⟩⟩⟩)⟩, ⟨bU BK457⟩, ⟨bU BK458⟩, ⟨bU BK467⟩, ⟨bB HB⟩⟩
  ·rw [if_neg c50] at H
   have c50b0 : (t470 == 0) = false := beq_eq_false_iff_ne.mpr c50
   have c50b1 : (t470 != 0) = true := bne_iff_ne.mpr c50
   (first | rw [c50b0] | (simp only [i64_w, i32_w]; rw [c50b0]) | skip)
   have H' := Aside0.mk H
   clear H
   go_wp2
   go_meet
   case rel => exact ⟨_, (true), (by first | rfl | (simp; done) | (simp [*]; done)), H', ⟨by first | omega | exact Nat.le_refl _⟩, ⟨by (with_reducible repeat (first | apply Kd.R_alloc | apply Kd.R_drewN | apply Kd.R_drew)); exact Kd.R_mono HO444.out (fun _ hk => hk.1.1.2)⟩, ⟨by (with_reducible repeat (first | apply Kd.R_alloc | apply Kd.R_drewN | apply Kd.R_drew)); exact Kd.R_mono HO447.out (fun _ hk => ⟨hk.1.1.1.1.1.1.1, ⟨hk.1.1.1.1.1.1.2, ⟨hk.1.1.1.1.1.2, ⟨hk.1.1.1.1.2, ⟨hk.1.1.1.2, hk.1.1.2⟩⟩⟩⟩⟩)⟩, ⟨by (with_reducible repeat (first | apply Kd.R_alloc | apply Kd.R_drewN | apply Kd.R_drew)); exact Kd.R_mono HO452.out (fun _ hk => hk.1.1.2)⟩, ⟨by (with_reducible repeat (first | apply Kd.R_alloc | apply Kd.R_drewN | apply Kd.R_drew)); exact Kd.R_mono HO455.out (fun _ hk => ⟨hk.1.1.1.1.1.1.2, ⟨hk.1.1.1.1.1.2, ⟨hk.1.1.1.1.1.1.1, ⟨hk.1.1.1.1.2, ⟨hk.1.1.1.2, hk.1.1.2⟩⟩⟩⟩⟩)⟩, ⟨by (with_reducible repeat (first | apply Kd.V_alloc | apply Kd.V_drewN | apply Kd.V_drew)); exact Kd.V_mono HO462.out (fun _ hk => ⟨hk.1.1.1.1, ⟨hk.1.1.1.2.1, ⟨hk.1.1.1.2.2.1, ⟨hk.1.1.1.2.2.2.1, ⟨hk.1.1.1.2.2.2.2.1, ⟨hk.1.1.1.2.2.2.2.2.1, hk.1.1.2⟩⟩⟩⟩⟩⟩)⟩, ⟨by (with_reducible repeat (first | apply Kd.V_alloc | apply Kd.V_drewN | apply Kd.V_drew)); exact Kd.V_mono HO465.out (fun _ hk => ⟨hk.1.1.1.1, ⟨hk.1.1.1.2.1, ⟨hk.1.1.1.2.2.1, ⟨hk.1.1.1.2.2.2.1, ⟨hk.1.1.1.2.2.2.2.1, ⟨hk.1.1.1.2.2.2.2.2.1, hk.1.1.2⟩⟩⟩⟩⟩⟩)⟩, ⟨bU BK457⟩, ⟨bU BK458⟩, ⟨bU BK467⟩, ⟨bB HB⟩⟩
 case rest =>
  clear HC12
  try clear c1
  try clear c2
  try clear p2
  try clear c3
  try clear c5
  try clear c6
  try clear c7
  try clear c9
  try clear c17
  try clear c18
  try clear c19
  try clear c23
  try clear c29
  try clear c30
  try clear c31
  try clear c50
  try clear c50b0
  try clear c50b1
  try clear c51
  try clear c51b0
  try clear c51b1
  try clear c52
  try clear c52b0
  try clear c52b1
  try clear c53
  try clear c53b0
  try clear c53b1
  try clear c54
  try clear c54b0
  try clear c54b1
  try clear c55
  try clear c55b0
  try clear c55b1
  try clear c56
  try clear c57
  try clear c58
  try clear c58b0
  try clear c58b1
  try clear c58b2
  try clear c62
  try clear c62b0
  try clear c62b1
  try clear c62b2
  try clear hcz20_0
  try clear hcz20_1
  try clear hcz20_2
  try clear hcz24_0
  try clear hcz24_1
  try clear hcz24_2
  try clear hcz32_0
  try clear hcz32_1
  try clear hcz32_2
  try clear hcz35_0
  try clear hcz35_1
  try clear hcz35_2
  try clear hcz37_0
  try clear hcz37_1
  try clear hcz37_2
  try clear hcz38_0
  try clear hcz38_1
  try clear hcz38_2
  try clear hcz40_0
  try clear hcz40_1
  try clear hcz40_2
  try clear hcz41_0
  try clear hcz41_1
  try clear hcz41_2
  try clear hcz43_0
  try clear hcz43_1
  try clear hcz43_2
  try clear hcz44_0
  try clear hcz44_1
  try clear hcz44_2
  try clear hcz46_0
  try clear hcz46_1
  try clear hcz46_2
  try clear hcz48_0
  try clear hcz48_1
  try clear hcz48_2
  try clear hfz20_0
  try clear hfz20_1
  try clear hfz20_2
  try clear hfz24_0
  try clear hfz24_1
  try clear hfz24_2
  try clear hfz32_0
  try clear hfz32_1
  try clear hfz32_2
  try clear hfz35_0
  try clear hfz35_1
  try clear hfz35_2
  try clear hfz37_0
  try clear hfz37_1
  try clear hfz37_2
  try clear hfz38_0
  try clear hfz38_1
  try clear hfz38_2
  try clear hfz40_0
  try clear hfz40_1
  try clear hfz40_2
  try clear hfz41_0
  try clear hfz41_1
  try clear hfz41_2
  try clear hfz43_0
  try clear hfz43_1
  try clear hfz43_2
  try clear hfz44_0
  try clear hfz44_1
  try clear hfz44_2
  try clear hfz46_0
  try clear hfz46_1
  try clear hfz46_2
  try clear hfz48_0
  try clear hfz48_1
  try clear hfz48_2
  obtain ⟨kq, x113_11, rfl, HA, HJ11, HO_458001, HO_458002, HO_459001, HO_459002, HO_468001, HO_468002, BK457, BK458, BK467, HB⟩ := hcut
  cases kq with
  | zero => exact absurd HA.out (by simp [trustquorumlaw05_SlicesEquivalent.j0])
  | succ kj11 =>
   have H := HA.out
   clear HA
   simp only [trustquorumlaw05_SlicesEquivalent.j0] at H
   by_cases c66 : x113_11 = true
   ·subst c66
    have H1 : (some false) = some r := by rw [if_pos rfl] at H; exact H
    clear H
    have H := H1
    clear H1
    obtain rfl := Option.some.inj H
    go_wp2
    go_ret
    exact ⟨by first | rfl | (simp [errW_none, errW_some] <;> rfl) | (simp [*, errW_none, errW_some] <;> rfl), bB HB⟩
   ·replace c66 := Bool.eq_false_iff.mpr c66
    subst c66
    have H1 : (if t474 = true then (if t477 = true then (trustquorumlaw05_SlicesEquivalent.j1 kj11 t471 t472 false t441 t442 t445 t449 t450 t453) else ((trustquorumref02_Satisfied.f kj11 t449 t450 t453 t478).bind fun t490 => (if t490 = true then ((trustquorumref02_Satisfied.f kj11 t441 t442 t445 t478).bind fun t491 => (trustquorumlaw05_SlicesEquivalent.j1 kj11 t471 t472 t491 t441 t442 t445 t449 t450 t453)) else (trustquorumlaw05_SlicesEquivalent.j1 kj11 t471 t472 true t441 t442 t445 t449 t450 t453)))) else ((trustquorumref02_Satisfied.f kj11 t441 t442 t445 t475).bind fun t492 => (if t492 = true then ((trustquorumref02_Satisfied.f kj11 t449 t450 t453 t475).bind fun t493 => (if t493 = true then (trustquorumlaw05_SlicesEquivalent.j1 kj11 t471 t472 true t441 t442 t445 t449 t450 t453) else (if t477 = true then (trustquorumlaw05_SlicesEquivalent.j1 kj11 t471 t472 false t441 t442 t445 t449 t450 t453) else ((trustquorumref02_Satisfied.f kj11 t449 t450 t453 t478).bind fun t494 => (if t494 = true then ((trustquorumref02_Satisfied.f kj11 t441 t442 t445 t478).bind fun t495 => (trustquorumlaw05_SlicesEquivalent.j1 kj11 t471 t472 t495 t441 t442 t445 t449 t450 t453)) else (trustquorumlaw05_SlicesEquivalent.j1 kj11 t471 t472 true t441 t442 t445 t449 t450 t453)))))) else (trustquorumlaw05_SlicesEquivalent.j1 kj11 t471 t472 true t441 t442 t445 t449 t450 t453)))) = some r := by rw [if_neg (show ¬ (false = true) by decide)] at H; exact H
    clear H
    have H := H1
    clear H1
    have HC67 := Aside0.mk H
    clear H
    go_upto_region 12 with (fail)
    go_cut [141] (fun v141 wc => ∃ (kq : Nat) (x141_66 : Bool), v141 = .bool x141_66 ∧ Aside0 (trustquorumlaw05_SlicesEquivalent.j1 kq t471 t472 x141_66 t441 t442 t445 t449 t450 t453 = some r) ∧ Aside0 (kq ≤ kj11) ∧ Aside0 (Kd.R (Kd.int .i64) 3 wc w.heap.size (fun k_ => some k_ ≠ ((.slice Ao25 t450.length co25) : Value).ownBlock) (.slice Ao21 t442.length co21) t442) ∧ Aside0 (Kd.R k27 27 wc w.heap.size (fun k_ => some k_ ≠ ((.slice Ao21 t442.length co21) : Value).ownBlock ∧ some k_ ≠ ((.slice Ao25 t450.length co25) : Value).ownBlock ∧ some k_ ≠ ((.slice Ao26 t453.length co26) : Value).ownBlock ∧ k_ ≠ gb457 ∧ k_ ≠ gb458 ∧ k_ ≠ gb467) (.slice Ao22 t445.length co22) t445) ∧ Aside0 (Kd.R (Kd.int .i64) 3 wc w.heap.size (fun k_ => some k_ ≠ ((.slice Ao21 t442.length co21) : Value).ownBlock) (.slice Ao25 t450.length co25) t450) ∧ Aside0 (Kd.R k27 27 wc w.heap.size (fun k_ => some k_ ≠ ((.slice Ao21 t442.length co21) : Value).ownBlock ∧ some k_ ≠ ((.slice Ao22 t445.length co22) : Value).ownBlock ∧ some k_ ≠ ((.slice Ao25 t450.length co25) : Value).ownBlock ∧ k_ ≠ gb457 ∧ k_ ≠ gb458 ∧ k_ ≠ gb467) (.slice Ao26 t453.length co26) t453) ∧ Aside0 (Kd.V (Kd.int .i64) 3 wc w.heap.size (fun k_ => some k_ ≠ ((.slice Ao21 t442.length co21) : Value).ownBlock ∧ some k_ ≠ ((.slice Ao22 t445.length co22) : Value).ownBlock ∧ some k_ ≠ ((.slice Ao25 t450.length co25) : Value).ownBlock ∧ some k_ ≠ ((.slice Ao26 t453.length co26) : Value).ownBlock ∧ k_ ≠ gb457 ∧ k_ ≠ gb458 ∧ k_ ≠ gb467) (.slice Ao33 t460.length co33) t460) ∧ Aside0 (Kd.V k27 27 wc w.heap.size (fun k_ => some k_ ≠ ((.slice Ao21 t442.length co21) : Value).ownBlock ∧ some k_ ≠ ((.slice Ao22 t445.length co22) : Value).ownBlock ∧ some k_ ≠ ((.slice Ao25 t450.length co25) : Value).ownBlock ∧ some k_ ≠ ((.slice Ao26 t453.length co26) : Value).ownBlock ∧ k_ ≠ gb457 ∧ k_ ≠ gb458 ∧ k_ ≠ gb467) (.slice Ao34 t463.length co34) t463) ∧ Aside0 (wc.heap[gb457]? = some (.cells #[.int .i64 t441, (.slice Ao21 t442.length co21), (.slice Ao22 t445.length co22)] 27 (0, 0))) ∧ Aside0 (wc.heap[gb458]? = some (.cells #[.int .i64 t449, (.slice Ao25 t450.length co25), (.slice Ao26 t453.length co26)] 27 (0, 0))) ∧ Aside0 (wc.heap[gb467]? = some (.cells #[.int .i64 t459, (.slice Ao33 t460.length co33), (.slice Ao34 t463.length co34)] 27 (0, 0))) ∧ Aside0 (Below w.heap.size w wc))
    case first =>
     have H := HC67.out
     clear HC67
     by_cases c68 : t474 = true
     ·subst c68
      have H1 : (if t477 = true then (trustquorumlaw05_SlicesEquivalent.j1 kj11 t471 t472 false t441 t442 t445 t449 t450 t453) else ((trustquorumref02_Satisfied.f kj11 t449 t450 t453 t478).bind fun t490 => (if t490 = true then ((trustquorumref02_Satisfied.f kj11 t441 t442 t445 t478).bind fun t491 => (trustquorumlaw05_SlicesEquivalent.j1 kj11 t471 t472 t491 t441 t442 t445 t449 t450 t453)) else (trustquorumlaw05_SlicesEquivalent.j1 kj11 t471 t472 true t441 t442 t445 t449 t450 t453)))) = some r := by rw [if_pos rfl] at H; exact H
      clear H
      have H := H1
      clear H1
      by_cases c69 : t477 = true
      ·subst c69
       have H1 : (trustquorumlaw05_SlicesEquivalent.j1 kj11 t471 t472 false t441 t442 t445 t449 t450 t453) = some r := by rw [if_pos rfl] at H; exact H
       clear H
       have H := H1
       clear H1
       have H' := Aside0.mk H
       clear H
       go_wp2
       go_meet
       case rel => exact ⟨_, (false), (by first | rfl | (simp; done) | (simp [*]; done)), H', ⟨by have := HJ11.out; first | omega | exact Nat.le_refl _⟩, ⟨Kd.uR HO_458001⟩, ⟨Kd.uR HO_458002⟩, ⟨Kd.uR HO_459001⟩, ⟨Kd.uR HO_459002⟩, ⟨Kd.uV HO_468001⟩, ⟨Kd.uV HO_468002⟩, ⟨bU BK457⟩, ⟨bU BK458⟩, ⟨bU BK467⟩, ⟨bB HB⟩⟩
      ·replace c69 := Bool.eq_false_iff.mpr c69
       subst c69
       have H1 : ((trustquorumref02_Satisfied.f kj11 t449 t450 t453 t478).bind fun t490 => (if t490 = true then ((trustquorumref02_Satisfied.f kj11 t441 t442 t445 t478).bind fun t491 => (trustquorumlaw05_SlicesEquivalent.j1 kj11 t471 t472 t491 t441 t442 t445 t449 t450 t453)) else (trustquorumlaw05_SlicesEquivalent.j1 kj11 t471 t472 true t441 t442 t445 t449 t450 t453))) = some r := by rw [if_neg (show ¬ (false = true) by decide)] at H; exact H
       clear H
       have H := H1
       clear H1
       replace H := Option.bind_eq_some_iff.mp H
       obtain ⟨t490, A700, H⟩ := H
       replace H : (if t490 = true then ((trustquorumref02_Satisfied.f kj11 t441 t442 t445 t478).bind fun t491 => (trustquorumlaw05_SlicesEquivalent.j1 kj11 t471 t472 t491 t441 t442 t445 t449 t450 t453)) else (trustquorumlaw05_SlicesEquivalent.j1 kj11 t471 t472 true t441 t442 t445 t449 t450 t453)) = some r := H
       have A70 := Aside0.mk A700
       clear A700
       by_cases c71 : t490 = true
       ·subst c71
        have H1 : ((trustquorumref02_Satisfied.f kj11 t441 t442 t445 t478).bind fun t491 => (trustquorumlaw05_SlicesEquivalent.j1 kj11 t471 t472 t491 t441 t442 t445 t449 t450 t453)) = some r := by rw [if_pos rfl] at H; exact H
        clear H
        have H := H1
        clear H1
        replace H := Option.bind_eq_some_iff.mp H
        obtain ⟨t491, A720, H⟩ := H
        replace H : (trustquorumlaw05_SlicesEquivalent.j1 kj11 t471 t472 t491 t441 t442 t445 t449 t450 t453) = some r := H
        have A72 := Aside0.mk A720
        clear A720
        have H' := Aside0.mk H
        clear H
        have hnb73 := NB458_457.out
        have hnc73 := NB457_458.out
        have hnb74 := NB458_467.out
        have hnc74 := NB467_458.out
        have hcz75_0 := bC0 BK458
        have hcz75_1 := bC1 BK458
        have hcz75_2 := bC2 BK458
        have hfz75_0 := blk_frozen BK458.out 0
        have hfz75_1 := blk_frozen BK458.out 1
        have hfz75_2 := blk_frozen BK458.out 2
        go_wp2_with (first | (go_at_call 11; (with_reducible refine (trustquorumref02_Satisfied.calls kj11 t449 _ _ t450 _ _ t453 t478 true _ ?side1 ?side2 ?side3 ?side4 A70.out).mono ?_); (case side1 => exact Kd.uC ((Kd.R_reads' HO_459001.out).2.2)); (case side2 => exact (Kd.R_reads' HO_459001.out).2.1); (case side3 => exact Kd.uC ((Kd.R_reads' HO_459002.out).2.2)); (case side4 => exact (Kd.R_reads' HO_459002.out).2.1); rintro e w76 ⟨rfl, hb⟩; replace HO_458001 := Kd.bR HO_458001 hb; replace HO_458002 := Kd.bR HO_458002 hb; replace HO_459001 := Kd.bR HO_459001 hb; replace HO_459002 := Kd.bR HO_459002 hb; replace HO_468001 := Kd.bV HO_468001 hb; replace HO_468002 := Kd.bV HO_468002 hb; replace BK457 := bb BK457 hb; replace BK458 := bb BK458 hb; replace BK467 := bb BK467 hb; replace HB := bs HB hb; (try clear hb); (try clear hb2); (try clear hk); (try clear hi); have hnb77 := NB457_467.out; have hnc77 := NB467_457.out; have hcz78_0 := bC0 BK457; have hcz78_1 := bC1 BK457; have hcz78_2 := bC2 BK457; have hfz78_0 := blk_frozen BK457.out 0; have hfz78_1 := blk_frozen BK457.out 1; have hfz78_2 := blk_frozen BK457.out 2) | (go_at_call 11; (with_reducible refine (trustquorumref02_Satisfied.calls kj11 t441 _ _ t442 _ _ t445 t478 t491 _ ?side1 ?side2 ?side3 ?side4 A72.out).mono ?_); (case side1 => exact Kd.uC ((Kd.R_reads' HO_458001.out).2.2)); (case side2 => exact (Kd.R_reads' HO_458001.out).2.1); (case side3 => exact Kd.uC ((Kd.R_reads' HO_458002.out).2.2)); (case side4 => exact (Kd.R_reads' HO_458002.out).2.1); rintro e w79 ⟨rfl, hb⟩; replace HO_458001 := Kd.bR HO_458001 hb; replace HO_458002 := Kd.bR HO_458002 hb; replace HO_459001 := Kd.bR HO_459001 hb; replace HO_459002 := Kd.bR HO_459002 hb; replace HO_468001 := Kd.bV HO_468001 hb; replace HO_468002 := Kd.bV HO_468002 hb; replace BK457 := bb BK457 hb; replace BK458 := bb BK458 hb; replace BK467 := bb BK467 hb; replace HB := bs HB hb; (try clear hb); (try clear hb2); (try clear hk); (try clear hi)))
        go_meet
        case rel => exact ⟨_, (t491), (by first | rfl | (simp; done) | (simp [*]; done)), H', ⟨by have := HJ11.out; first | omega | exact Nat.le_refl _⟩, ⟨Kd.uR HO_458001⟩, ⟨Kd.uR HO_458002⟩, ⟨Kd.uR HO_459001⟩, ⟨Kd.uR HO_459002⟩, ⟨Kd.uV HO_468001⟩, ⟨Kd.uV HO_468002⟩, ⟨bU BK457⟩, ⟨bU BK458⟩, ⟨bU BK467⟩, ⟨bB HB⟩⟩
       ·replace c71 := Bool.eq_false_iff.mpr c71
        subst c71
        have H1 : (trustquorumlaw05_SlicesEquivalent.j1 kj11 t471 t472 true t441 t442 t445 t449 t450 t453) = some r := by rw [if_neg (show ¬ (false = true) by decide)] at H; exact H
        clear H
        have H := H1
        clear H1
        have H' := Aside0.mk H
        clear H
        have hnb80 := NB458_457.out
        have hnc80 := NB457_458.out
        have hnb81 := NB458_467.out
        have hnc81 := NB467_458.out
        have hcz82_0 := bC0 BK458
        have hcz82_1 := bC1 BK458
        have hcz82_2 := bC2 BK458
        have hfz82_0 := blk_frozen BK458.out 0
        have hfz82_1 := blk_frozen BK458.out 1
        have hfz82_2 := blk_frozen BK458.out 2
        go_wp2_with (first | (go_at_call 11; (with_reducible refine (trustquorumref02_Satisfied.calls kj11 t449 _ _ t450 _ _ t453 t478 false _ ?side1 ?side2 ?side3 ?side4 A70.out).mono ?_); (case side1 => exact Kd.uC ((Kd.R_reads' HO_459001.out).2.2)); (case side2 => exact (Kd.R_reads' HO_459001.out).2.1); (case side3 => exact Kd.uC ((Kd.R_reads' HO_459002.out).2.2)); (case side4 => exact (Kd.R_reads' HO_459002.out).2.1); rintro e w83 ⟨rfl, hb⟩; replace HO_458001 := Kd.bR HO_458001 hb; replace HO_458002 := Kd.bR HO_458002 hb; replace HO_459001 := Kd.bR HO_459001 hb; replace HO_459002 := Kd.bR HO_459002 hb; replace HO_468001 := Kd.bV HO_468001 hb; replace HO_468002 := Kd.bV HO_468002 hb; replace BK457 := bb BK457 hb; replace BK458 := bb BK458 hb; replace BK467 := bb BK467 hb; replace HB := bs HB hb; (try clear hb); (try clear hb2); (try clear hk); (try clear hi)))
        go_meet
        case rel => exact ⟨_, (true), (by first | rfl | (simp; done) | (simp [*]; done)), H', ⟨by have := HJ11.out; first | omega | exact Nat.le_refl _⟩, ⟨Kd.uR HO_458001⟩, ⟨Kd.uR HO_458002⟩, ⟨Kd.uR HO_459001⟩, ⟨Kd.uR HO_459002⟩, ⟨Kd.uV HO_468001⟩, ⟨Kd.uV HO_468002⟩, ⟨bU BK457⟩, ⟨bU BK458⟩, ⟨bU BK467⟩, ⟨bB HB⟩⟩
     ·replace c68 := Bool.eq_false_iff.mpr c68
      subst c68
      have H1 : ((trustquorumref02_Satisfied.f kj11 t441 t442 t445 t475).bind fun t492 => (if t492 = true then ((trustquorumref02_Satisfied.f kj11 t449 t450 t453 t475).bind fun t493 => (if t493 = true then (trustquorumlaw05_SlicesEquivalent.j1 kj11 t471 t472 true t441 t442 t445 t449 t450 t453) else (if t477 = true then (trustquorumlaw05_SlicesEquivalent.j1 kj11 t471 t472 false t441 t442 t445 t449 t450 t453) else ((trustquorumref02_Satisfied.f kj11 t449 t450 t453 t478).bind fun t494 => (if t494 = true then ((trustquorumref02_Satisfied.f kj11 t441 t442 t445 t478).bind fun t495 => (trustquorumlaw05_SlicesEquivalent.j1 kj11 t471 t472 t495 t441 t442 t445 t449 t450 t453)) else (trustquorumlaw05_SlicesEquivalent.j1 kj11 t471 t472 true t441 t442 t445 t449 t450 t453)))))) else (trustquorumlaw05_SlicesEquivalent.j1 kj11 t471 t472 true t441 t442 t445 t449 t450 t453))) = some r := by rw [if_neg (show ¬ (false = true) by decide)] at H; exact H
      clear H
      have H := H1
      clear H1
      replace H := Option.bind_eq_some_iff.mp H
      obtain ⟨t492, A840, H⟩ := H
      replace H : (if t492 = true then ((trustquorumref02_Satisfied.f kj11 t449 t450 t453 t475).bind fun t493 => (if t493 = true then (trustquorumlaw05_SlicesEquivalent.j1 kj11 t471 t472 true t441 t442 t445 t449 t450 t453) else (if t477 = true then (trustquorumlaw05_SlicesEquivalent.j1 kj11 t471 t472 false t441 t442 t445 t449 t450 t453) else ((trustquorumref02_Satisfied.f kj11 t449 t450 t453 t478).bind fun t494 => (if t494 = true then ((trustquorumref02_Satisfied.f kj11 t441 t442 t445 t478).bind fun t495 => (trustquorumlaw05_SlicesEquivalent.j1 kj11 t471 t472 t495 t441 t442 t445 t449 t450 t453)) else (trustquorumlaw05_SlicesEquivalent.j1 kj11 t471 t472 true t441 t442 t445 t449 t450 t453)))))) else (trustquorumlaw05_SlicesEquivalent.j1 kj11 t471 t472 true t441 t442 t445 t449 t450 t453)) = some r := H
      have A84 := Aside0.mk A840
      clear A840
      by_cases c85 : t492 = true
      ·subst c85
       have H1 : ((trustquorumref02_Satisfied.f kj11 t449 t450 t453 t475).bind fun t493 => (if t493 = true then (trustquorumlaw05_SlicesEquivalent.j1 kj11 t471 t472 true t441 t442 t445 t449 t450 t453) else (if t477 = true then (trustquorumlaw05_SlicesEquivalent.j1 kj11 t471 t472 false t441 t442 t445 t449 t450 t453) else ((trustquorumref02_Satisfied.f kj11 t449 t450 t453 t478).bind fun t494 => (if t494 = true then ((trustquorumref02_Satisfied.f kj11 t441 t442 t445 t478).bind fun t495 => (trustquorumlaw05_SlicesEquivalent.j1 kj11 t471 t472 t495 t441 t442 t445 t449 t450 t453)) else (trustquorumlaw05_SlicesEquivalent.j1 kj11 t471 t472 true t441 t442 t445 t449 t450 t453)))))) = some r := by rw [if_pos rfl] at H; exact H
       clear H
       have H := H1
       clear H1
       replace H := Option.bind_eq_some_iff.mp H
       obtain ⟨t493, A860, H⟩ := H
       replace H : (if t493 = true then (trustquorumlaw05_SlicesEquivalent.j1 kj11 t471 t472 true t441 t442 t445 t449 t450 t453) else (if t477 = true then (trustquorumlaw05_SlicesEquivalent.j1 kj11 t471 t472 false t441 t442 t445 t449 t450 t453) else ((trustquorumref02_Satisfied.f kj11 t449 t450 t453 t478).bind fun t494 => (if t494 = true then ((trustquorumref02_Satisfied.f kj11 t441 t442 t445 t478).bind fun t495 => (trustquorumlaw05_SlicesEquivalent.j1 kj11 t471 t472 t495 t441 t442 t445 t449 t450 t453)) else (trustquorumlaw05_SlicesEquivalent.j1 kj11 t471 t472 true t441 t442 t445 t449 t450 t453))))) = some r := H
       have A86 := Aside0.mk A860
       clear A860
       by_cases c87 : t493 = true
       ·subst c87
        have H1 : (trustquorumlaw05_SlicesEquivalent.j1 kj11 t471 t472 true t441 t442 t445 t449 t450 t453) = some r := by rw [if_pos rfl] at H; exact H
        clear H
        have H := H1
        clear H1
        have H' := Aside0.mk H
        clear H
        have hnb88 := NB457_458.out
        have hnc88 := NB458_457.out
        have hnb89 := NB457_467.out
        have hnc89 := NB467_457.out
        have hcz90_0 := bC0 BK457
        have hcz90_1 := bC1 BK457
        have hcz90_2 := bC2 BK457
        have hfz90_0 := blk_frozen BK457.out 0
        have hfz90_1 := blk_frozen BK457.out 1
        have hfz90_2 := blk_frozen BK457.out 2
        go_wp2_with (first | (go_at_call 11; (with_reducible refine (trustquorumref02_Satisfied.calls kj11 t441 _ _ t442 _ _ t445 t475 true _ ?side1 ?side2 ?side3 ?side4 A84.out).mono ?_); (case side1 => exact Kd.uC ((Kd.R_reads' HO_458001.out).2.2)); (case side2 => exact (Kd.R_reads' HO_458001.out).2.1); (case side3 => exact Kd.uC ((Kd.R_reads' HO_458002.out).2.2)); (case side4 => exact (Kd.R_reads' HO_458002.out).2.1); rintro e w91 ⟨rfl, hb⟩; replace HO_458001 := Kd.bR HO_458001 hb; replace HO_458002 := Kd.bR HO_458002 hb; replace HO_459001 := Kd.bR HO_459001 hb; replace HO_459002 := Kd.bR HO_459002 hb; replace HO_468001 := Kd.bV HO_468001 hb; replace HO_468002 := Kd.bV HO_468002 hb; replace BK457 := bb BK457 hb; replace BK458 := bb BK458 hb; replace BK467 := bb BK467 hb; replace HB := bs HB hb; (try clear hb); (try clear hb2); (try clear hk); (try clear hi); have hnb92 := NB458_467.out; have hnc92 := NB467_458.out; have hcz93_0 := bC0 BK458; have hcz93_1 := bC1 BK458; have hcz93_2 := bC2 BK458; have hfz93_0 := blk_frozen BK458.out 0; have hfz93_1 := blk_frozen BK458.out 1; have hfz93_2 := blk_frozen BK458.out 2) | (go_at_call 11; (with_reducible refine (trustquorumref02_Satisfied.calls kj11 t449 _ _ t450 _ _ t453 t475 true _ ?side1 ?side2 ?side3 ?side4 A86.out).mono ?_); (case side1 => exact Kd.uC ((Kd.R_reads' HO_459001.out).2.2)); (case side2 => exact (Kd.R_reads' HO_459001.out).2.1); (case side3 => exact Kd.uC ((Kd.R_reads' HO_459002.out).2.2)); (case side4 => exact (Kd.R_reads' HO_459002.out).2.1); rintro e w94 ⟨rfl, hb⟩; replace HO_458001 := Kd.bR HO_458001 hb; replace HO_458002 := Kd.bR HO_458002 hb; replace HO_459001 := Kd.bR HO_459001 hb; replace HO_459002 := Kd.bR HO_459002 hb; replace HO_468001 := Kd.bV HO_468001 hb; replace HO_468002 := Kd.bV HO_468002 hb; replace BK457 := bb BK457 hb; replace BK458 := bb BK458 hb; replace BK467 := bb BK467 hb; replace HB := bs HB hb; (try clear hb); (try clear hb2); (try clear hk); (try clear hi)))
        go_meet
        case rel => exact ⟨_, (true), (by first | rfl | (simp; done) | (simp [*]; done)), H', ⟨by have := HJ11.out; first | omega | exact Nat.le_refl _⟩, ⟨Kd.uR HO_458001⟩, ⟨Kd.uR HO_458002⟩, ⟨Kd.uR HO_459001⟩, ⟨Kd.uR HO_459002⟩, ⟨Kd.uV HO_468001⟩, ⟨Kd.uV HO_468002⟩, ⟨bU BK457⟩, ⟨bU BK458⟩, ⟨bU BK467⟩, ⟨bB HB⟩⟩
       ·replace c87 := Bool.eq_false_iff.mpr c87
        subst c87
        have H1 : (if t477 = true then (trustquorumlaw05_SlicesEquivalent.j1 kj11 t471 t472 false t441 t442 t445 t449 t450 t453) else ((trustquorumref02_Satisfied.f kj11 t449 t450 t453 t478).bind fun t494 => (if t494 = true then ((trustquorumref02_Satisfied.f kj11 t441 t442 t445 t478).bind fun t495 => (trustquorumlaw05_SlicesEquivalent.j1 kj11 t471 t472 t495 t441 t442 t445 t449 t450 t453)) else (trustquorumlaw05_SlicesEquivalent.j1 kj11 t471 t472 true t441 t442 t445 t449 t450 t453)))) = some r := by rw [if_neg (show ¬ (false = true) by decide)] at H; exact H
        clear H
        have H := H1
        clear H1
        by_cases c95 : t477 = true
        ·subst c95
         have H1 : (trustquorumlaw05_SlicesEquivalent.j1 kj11 t471 t472 false t441 t442 t445 t449 t450 t453) = some r := by rw [if_pos rfl] at H; exact H
         clear H
         have H := H1
         clear H1
         have H' := Aside0.mk H
         clear H
         have hnb96 := NB457_458.out
         have hnc96 := NB458_457.out
         have hnb97 := NB457_467.out
         have hnc97 := NB467_457.out
         have hcz98_0 := bC0 BK457
         have hcz98_1 := bC1 BK457
         have hcz98_2 := bC2 BK457
         have hfz98_0 := blk_frozen BK457.out 0
         have hfz98_1 := blk_frozen BK457.out 1
         have hfz98_2 := blk_frozen BK457.out 2
         go_wp2_with (first | (go_at_call 11; (with_reducible refine (trustquorumref02_Satisfied.calls kj11 t441 _ _ t442 _ _ t445 t475 true _ ?side1 ?side2 ?side3 ?side4 A84.out).mono ?_); (case side1 => exact Kd.uC ((Kd.R_reads' HO_458001.out).2.2)); (case side2 => exact (Kd.R_reads' HO_458001.out).2.1); (case side3 => exact Kd.uC ((Kd.R_reads' HO_458002.out).2.2)); (case side4 => exact (Kd.R_reads' HO_458002.out).2.1); rintro e w99 ⟨rfl, hb⟩; replace HO_458001 := Kd.bR HO_458001 hb; replace HO_458002 := Kd.bR HO_458002 hb; replace HO_459001 := Kd.bR HO_459001 hb; replace HO_459002 := Kd.bR HO_459002 hb; replace HO_468001 := Kd.bV HO_468001 hb; replace HO_468002 := Kd.bV HO_468002 hb; replace BK457 := bb BK457 hb; replace BK458 := bb BK458 hb; replace BK467 := bb BK467 hb; replace HB := bs HB hb; (try clear hb); (try clear hb2); (try clear hk); (try clear hi); have hnb100 := NB458_467.out; have hnc100 := NB467_458.out; have hcz101_0 := bC0 BK458; have hcz101_1 := bC1 BK458; have hcz101_2 := bC2 BK458; have hfz101_0 := blk_frozen BK458.out 0; have hfz101_1 := blk_frozen BK458.out 1; have hfz101_2 := blk_frozen BK458.out 2) | (go_at_call 11; (with_reducible refine (trustquorumref02_Satisfied.calls kj11 t449 _ _ t450 _ _ t453 t475 false _ ?side1 ?side2 ?side3 ?side4 A86.out).mono ?_); (case side1 => exact Kd.uC ((Kd.R_reads' HO_459001.out).2.2)); (case side2 => exact (Kd.R_reads' HO_459001.out).2.1); (case side3 => exact Kd.uC ((Kd.R_reads' HO_459002.out).2.2)); (case side4 => exact (Kd.R_reads' HO_459002.out).2.1); rintro e w102 ⟨rfl, hb⟩; replace HO_458001 := Kd.bR HO_458001 hb; replace HO_458002 := Kd.bR HO_458002 hb; replace HO_459001 := Kd.bR HO_459001 hb; replace HO_459002 := Kd.bR HO_459002 hb; replace HO_468001 := Kd.bV HO_468001 hb; replace HO_468002 := Kd.bV HO_468002 hb; replace BK457 := bb BK457 hb; replace BK458 := bb BK458 hb; replace BK467 := bb BK467 hb; replace HB := bs HB hb; (try clear hb); (try clear hb2); (try clear hk); (try clear hi)))
         go_meet
         case rel => exact ⟨_, (false), (by first | rfl | (simp; done) | (simp [*]; done)), H', ⟨by have := HJ11.out; first | omega | exact Nat.le_refl _⟩, ⟨Kd.uR HO_458001⟩, ⟨Kd.uR HO_458002⟩, ⟨Kd.uR HO_459001⟩, ⟨Kd.uR HO_459002⟩, ⟨Kd.uV HO_468001⟩, ⟨Kd.uV HO_468002⟩, ⟨bU BK457⟩, ⟨bU BK458⟩, ⟨bU BK467⟩, ⟨bB HB⟩⟩
        ·replace c95 := Bool.eq_false_iff.mpr c95
         subst c95
         have H1 : ((trustquorumref02_Satisfied.f kj11 t449 t450 t453 t478).bind fun t494 => (if t494 = true then ((trustquorumref02_Satisfied.f kj11 t441 t442 t445 t478).bind fun t495 => (trustquorumlaw05_SlicesEquivalent.j1 kj11 t471 t472 t495 t441 t442 t445 t449 t450 t453)) else (trustquorumlaw05_SlicesEquivalent.j1 kj11 t471 t472 true t441 t442 t445 t449 t450 t453))) = some r := by rw [if_neg (show ¬ (false = true) by decide)] at H; exact H
         clear H
         have H := H1
         clear H1
         replace H := Option.bind_eq_some_iff.mp H
         obtain ⟨t494, A1030, H⟩ := H
         replace H : (if t494 = true then ((trustquorumref02_Satisfied.f kj11 t441 t442 t445 t478).bind fun t495 => (trustquorumlaw05_SlicesEquivalent.j1 kj11 t471 t472 t495 t441 t442 t445 t449 t450 t453)) else (trustquorumlaw05_SlicesEquivalent.j1 kj11 t471 t472 true t441 t442 t445 t449 t450 t453)) = some r := H
         have A103 := Aside0.mk A1030
         clear A1030
         by_cases c104 : t494 = true
         ·subst c104
          have H1 : ((trustquorumref02_Satisfied.f kj11 t441 t442 t445 t478).bind fun t495 => (trustquorumlaw05_SlicesEquivalent.j1 kj11 t471 t472 t495 t441 t442 t445 t449 t450 t453)) = some r := by rw [if_pos rfl] at H; exact H
          clear H
          have H := H1
          clear H1
          replace H := Option.bind_eq_some_iff.mp H
          obtain ⟨t495, A1050, H⟩ := H
          replace H : (trustquorumlaw05_SlicesEquivalent.j1 kj11 t471 t472 t495 t441 t442 t445 t449 t450 t453) = some r := H
          have A105 := Aside0.mk A1050
          clear A1050
          have H' := Aside0.mk H
          clear H
          have hnb106 := NB457_458.out
          have hnc106 := NB458_457.out
          have hnb107 := NB457_467.out
          have hnc107 := NB467_457.out
          have hcz108_0 := bC0 BK457
          have hcz108_1 := bC1 BK457
          have hcz108_2 := bC2 BK457
          have hfz108_0 := blk_frozen BK457.out 0
          have hfz108_1 := blk_frozen BK457.out 1
          have hfz108_2 := blk_frozen BK457.out 2
          go_wp2_with (first | (go_at_call 11; (with_reducible refine (trustquorumref02_Satisfied.calls kj11 t441 _ _ t442 _ _ t445 t475 true _ ?side1 ?side2 ?side3 ?side4 A84.out).mono ?_); (case side1 => exact Kd.uC ((Kd.R_reads' HO_458001.out).2.2)); (case side2 => exact (Kd.R_reads' HO_458001.out).2.1); (case side3 => exact Kd.uC ((Kd.R_reads' HO_458002.out).2.2)); (case side4 => exact (Kd.R_reads' HO_458002.out).2.1); rintro e w109 ⟨rfl, hb⟩; replace HO_458001 := Kd.bR HO_458001 hb; replace HO_458002 := Kd.bR HO_458002 hb; replace HO_459001 := Kd.bR HO_459001 hb; replace HO_459002 := Kd.bR HO_459002 hb; replace HO_468001 := Kd.bV HO_468001 hb; replace HO_468002 := Kd.bV HO_468002 hb; replace BK457 := bb BK457 hb; replace BK458 := bb BK458 hb; replace BK467 := bb BK467 hb; replace HB := bs HB hb; (try clear hb); (try clear hb2); (try clear hk); (try clear hi); have hnb110 := NB458_467.out; have hnc110 := NB467_458.out; have hcz111_0 := bC0 BK458; have hcz111_1 := bC1 BK458; have hcz111_2 := bC2 BK458; have hfz111_0 := blk_frozen BK458.out 0; have hfz111_1 := blk_frozen BK458.out 1; have hfz111_2 := blk_frozen BK458.out 2) | (go_at_call 11; (with_reducible refine (trustquorumref02_Satisfied.calls kj11 t449 _ _ t450 _ _ t453 t475 false _ ?side1 ?side2 ?side3 ?side4 A86.out).mono ?_); (case side1 => exact Kd.uC ((Kd.R_reads' HO_459001.out).2.2)); (case side2 => exact (Kd.R_reads' HO_459001.out).2.1); (case side3 => exact Kd.uC ((Kd.R_reads' HO_459002.out).2.2)); (case side4 => exact (Kd.R_reads' HO_459002.out).2.1); rintro e w112 ⟨rfl, hb⟩; replace HO_458001 := Kd.bR HO_458001 hb; replace HO_458002 := Kd.bR HO_458002 hb; replace HO_459001 := Kd.bR HO_459001 hb; replace HO_459002 := Kd.bR HO_459002 hb; replace HO_468001 := Kd.bV HO_468001 hb; replace HO_468002 := Kd.bV HO_468002 hb; replace BK457 := bb BK457 hb; replace BK458 := bb BK458 hb; replace BK467 := bb BK467 hb; replace HB := bs HB hb; (try clear hb); (try clear hb2); (try clear hk); (try clear hi); have hcz113_0 := bC0 BK458; have hcz113_1 := bC1 BK458; have hcz113_2 := bC2 BK458; have hfz113_0 := blk_frozen BK458.out 0; have hfz113_1 := blk_frozen BK458.out 1; have hfz113_2 := blk_frozen BK458.out 2) | (go_at_call 11; (with_reducible refine (trustquorumref02_Satisfied.calls kj11 t449 _ _ t450 _ _ t453 t478 true _ ?side1 ?side2 ?side3 ?side4 A103.out).mono ?_); (case side1 => exact Kd.uC ((Kd.R_reads' HO_459001.out).2.2)); (case side2 => exact (Kd.R_reads' HO_459001.out).2.1); (case side3 => exact Kd.uC ((Kd.R_reads' HO_459002.out).2.2)); (case side4 => exact (Kd.R_reads' HO_459002.out).2.1); rintro e w114 ⟨rfl, hb⟩; replace HO_458001 := Kd.bR HO_458001 hb; replace HO_458002 := Kd.bR HO_458002 hb; replace HO_459001 := Kd.bR HO_459001 hb; replace HO_459002 := Kd.bR HO_459002 hb; replace HO_468001 := Kd.bV HO_468001 hb; replace HO_468002 := Kd.bV HO_468002 hb; replace BK457 := bb BK457 hb; replace BK458 := bb BK458 hb; replace BK467 := bb BK467 hb; replace HB := bs HB hb; (try clear hb); (try clear hb2); (try clear hk); (try clear hi); have hcz115_0 := bC0 BK457; have hcz115_1 := bC1 BK457; have hcz115_2 := bC2 BK457; have hfz115_0 := blk_frozen BK457.out 0; have hfz115_1 := blk_frozen BK457.out 1; have hfz115_2 := blk_frozen BK457.out 2) | (go_at_call 11; (with_reducible refine (trustquorumref02_Satisfied.calls kj11 t441 _ _ t442 _ _ t445 t478 t495 _ ?side1 ?side2 ?side3 ?side4 A105.out).mono ?_); (case side1 => exact Kd.uC ((Kd.R_reads' HO_458001.out).2.2)); (case side2 => exact (Kd.R_reads' HO_458001.out).2.1); (case side3 => exact Kd.uC ((Kd.R_reads' HO_458002.out).2.2)); (case side4 => exact (Kd.R_reads' HO_458002.out).2.1); rintro e w116 ⟨rfl, hb⟩; replace HO_458001 := Kd.bR HO_458001 hb; replace HO_458002 := Kd.bR HO_458002 hb; replace HO_459001 := Kd.bR HO_459001 hb; replace HO_459002 := Kd.bR HO_459002 hb; replace HO_468001 := Kd.bV HO_468001 hb; replace HO_468002 := Kd.bV HO_468002 hb; replace BK457 := bb BK457 hb; replace BK458 := bb BK458 hb; replace BK467 := bb BK467 hb; replace HB := bs HB hb; (try clear hb); (try clear hb2); (try clear hk); (try clear hi)))
          go_meet
          case rel => exact ⟨_, (t495), (by first | rfl | (simp; done) | (simp [*]; done)), H', ⟨by have := HJ11.out; first | omega | exact Nat.le_refl _⟩, ⟨Kd.uR HO_458001⟩, ⟨Kd.uR HO_458002⟩, ⟨Kd.uR HO_459001⟩, ⟨Kd.uR HO_459002⟩, ⟨Kd.uV HO_468001⟩, ⟨Kd.uV HO_468002⟩, ⟨bU BK457⟩, ⟨bU BK458⟩, ⟨bU BK467⟩, ⟨bB HB⟩⟩
         ·replace c104 := Bool.eq_false_iff.mpr c104
          subst c104
          have H1 : (trustquorumlaw05_SlicesEquivalent.j1 kj11 t471 t472 true t441 t442 t445 t449 t450 t453) = some r := by rw [if_neg (show ¬ (false = true) by decide)] at H; exact H
          clear H
          have H := H1
          clear H1
          have H' := Aside0.mk H
          clear H
          have hnb117 := NB457_458.out
          have hnc117 := NB458_457.out
          have hnb118 := NB457_467.out
          have hnc118 := NB467_457.out
          have hcz119_0 := bC0 BK457
          have hcz119_1 := bC1 BK457
          have hcz119_2 := bC2 BK457
          have hfz119_0 := blk_frozen BK457.out 0
          have hfz119_1 := blk_frozen BK457.out 1
          have hfz119_2 := blk_frozen BK457.out 2
          go_wp2_with (first | (go_at_call 11; (with_reducible refine (trustquorumref02_Satisfied.calls kj11 t441 _ _ t442 _ _ t445 t475 true _ ?side1 ?side2 ?side3 ?side4 A84.out).mono ?_); (case side1 => exact Kd.uC ((Kd.R_reads' HO_458001.out).2.2)); (case side2 => exact (Kd.R_reads' HO_458001.out).2.1); (case side3 => exact Kd.uC ((Kd.R_reads' HO_458002.out).2.2)); (case side4 => exact (Kd.R_reads' HO_458002.out).2.1); rintro e w120 ⟨rfl, hb⟩; replace HO_458001 := Kd.bR HO_458001 hb; replace HO_458002 := Kd.bR HO_458002 hb; replace HO_459001 := Kd.bR HO_459001 hb; replace HO_459002 := Kd.bR HO_459002 hb; replace HO_468001 := Kd.bV HO_468001 hb; replace HO_468002 := Kd.bV HO_468002 hb; replace BK457 := bb BK457 hb; replace BK458 := bb BK458 hb; replace BK467 := bb BK467 hb; replace HB := bs HB hb; (try clear hb); (try clear hb2); (try clear hk); (try clear hi); have hnb121 := NB458_467.out; have hnc121 := NB467_458.out; have hcz122_0 := bC0 BK458; have hcz122_1 := bC1 BK458; have hcz122_2 := bC2 BK458; have hfz122_0 := blk_frozen BK458.out 0; have hfz122_1 := blk_frozen BK458.out 1; have hfz122_2 := blk_frozen BK458.out 2) | (go_at_call 11; (with_reducible refine (trustquorumref02_Satisfied.calls kj11 t449 _ _ t450 _ _ t453 t475 false _ ?side1 ?side2 ?side3 ?side4 A86.out).mono ?_); (case side1 => exact Kd.uC ((Kd.R_reads' HO_459001.out).2.2)); (case side2 => exact (Kd.R_reads' HO_459001.out).2.1); (case side3 => exact Kd.uC ((Kd.R_reads' HO_459002.out).2.2)); (case side4 => exact (Kd.R_reads' HO_459002.out).2.1); rintro e w123 ⟨rfl, hb⟩; replace HO_458001 := Kd.bR HO_458001 hb; replace HO_458002 := Kd.bR HO_458002 hb; replace HO_459001 := Kd.bR HO_459001 hb; replace HO_459002 := Kd.bR HO_459002 hb; replace HO_468001 := Kd.bV HO_468001 hb; replace HO_468002 := Kd.bV HO_468002 hb; replace BK457 := bb BK457 hb; replace BK458 := bb BK458 hb; replace BK467 := bb BK467 hb; replace HB := bs HB hb; (try clear hb); (try clear hb2); (try clear hk); (try clear hi); have hcz124_0 := bC0 BK458; have hcz124_1 := bC1 BK458; have hcz124_2 := bC2 BK458; have hfz124_0 := blk_frozen BK458.out 0; have hfz124_1 := blk_frozen BK458.out 1; have hfz124_2 := blk_frozen BK458.out 2) | (go_at_call 11; (with_reducible refine (trustquorumref02_Satisfied.calls kj11 t449 _ _ t450 _ _ t453 t478 false _ ?side1 ?side2 ?side3 ?side4 A103.out).mono ?_); (case side1 => exact Kd.uC ((Kd.R_reads' HO_459001.out).2.2)); (case side2 => exact (Kd.R_reads' HO_459001.out).2.1); (case side3 => exact Kd.uC ((Kd.R_reads' HO_459002.out).2.2)); (case side4 => exact (Kd.R_reads' HO_459002.out).2.1); rintro e w125 ⟨rfl, hb⟩; replace HO_458001 := Kd.bR HO_458001 hb; replace HO_458002 := Kd.bR HO_458002 hb; replace HO_459001 := Kd.bR HO_459001 hb; replace HO_459002 := Kd.bR HO_459002 hb; replace HO_468001 := Kd.bV HO_468001 hb; replace HO_468002 := Kd.bV HO_468002 hb; replace BK457 := bb BK457 hb; replace BK458 := bb BK458 hb; replace BK467 := bb BK467 hb; replace HB := bs HB hb; (try clear hb); (try clear hb2); (try clear hk); (try clear hi)))
          go_meet
          case rel => exact ⟨_, (true), (by first | rfl | (simp; done) | (simp [*]; done)), H', ⟨by have := HJ11.out; first | omega | exact Nat.le_refl _⟩, ⟨Kd.uR HO_458001⟩, ⟨Kd.uR HO_458002⟩, ⟨Kd.uR HO_459001⟩, ⟨Kd.uR HO_459002⟩, ⟨Kd.uV HO_468001⟩, ⟨Kd.uV HO_468002⟩, ⟨bU BK457⟩, ⟨bU BK458⟩, ⟨bU BK467⟩, ⟨bB HB⟩⟩
      ·replace c85 := Bool.eq_false_iff.mpr c85
       subst c85
       have H1 : (trustquorumlaw05_SlicesEquivalent.j1 kj11 t471 t472 true t441 t442 t445 t449 t450 t453) = some r := by rw [if_neg (show ¬ (false = true) by decide)] at H; exact H
       clear H
       have H := H1
       clear H1
       have H' := Aside0.mk H
       clear H
       have hnb126 := NB457_458.out
       have hnc126 := NB458_457.out
       have hnb127 := NB457_467.out
       have hnc127 := NB467_457.out
       have hcz128_0 := bC0 BK457
       have hcz128_1 := bC1 BK457
       have hcz128_2 := bC2 BK457
       have hfz128_0 := blk_frozen BK457.out 0
       have hfz128_1 := blk_frozen BK457.out 1
       have hfz128_2 := blk_frozen BK457.out 2
       go_wp2_with (first | (go_at_call 11; (with_reducible refine (trustquorumref02_Satisfied.calls kj11 t441 _ _ t442 _ _ t445 t475 false _ ?side1 ?side2 ?side3 ?side4 A84.out).mono ?_); (case side1 => exact Kd.uC ((Kd.R_reads' HO_458001.out).2.2)); (case side2 => exact (Kd.R_reads' HO_458001.out).2.1); (case side3 => exact Kd.uC ((Kd.R_reads' HO_458002.out).2.2)); (case side4 => exact (Kd.R_reads' HO_458002.out).2.1); rintro e w129 ⟨rfl, hb⟩; replace HO_458001 := Kd.bR HO_458001 hb; replace HO_458002 := Kd.bR HO_458002 hb; replace HO_459001 := Kd.bR HO_459001 hb; replace HO_459002 := Kd.bR HO_459002 hb; replace HO_468001 := Kd.bV HO_468001 hb; replace HO_468002 := Kd.bV HO_468002 hb; replace BK457 := bb BK457 hb; replace BK458 := bb BK458 hb; replace BK467 := bb BK467 hb; replace HB := bs HB hb; (try clear hb); (try clear hb2); (try clear hk); (try clear hi)))
       go_meet
       case rel => exact ⟨_, (true), (by first | rfl | (simp; done) | (simp [*]; done)), H', ⟨by have := HJ11.out; first | omega | exact Nat.le_refl _⟩, ⟨Kd.uR HO_458001⟩, ⟨Kd.uR HO_458002⟩, ⟨Kd.uR HO_459001⟩, ⟨Kd.uR HO_459002⟩, ⟨Kd.uV HO_468001⟩, ⟨Kd.uV HO_468002⟩, ⟨bU BK457⟩, ⟨bU BK458⟩, ⟨bU BK467⟩, ⟨bB HB⟩⟩
    case rest =>
     clear HC67
     try clear c1
     try clear c2
     try clear p2
     try clear c3
     try clear c5
     try clear c6
     try clear c7
     try clear c8
     try clear c9
     try clear c10
     try clear c11
     try clear c12
     try clear c17
     try clear c18
     try clear c19
     try clear c23
     try clear c29
     try clear c30
     try clear c31
     try clear c50
     try clear c50b0
     try clear c50b1
     try clear c51
     try clear c51b0
     try clear c51b1
     try clear c52
     try clear c52b0
     try clear c52b1
     try clear c53
     try clear c53b0
     try clear c53b1
     try clear c54
     try clear c54b0
     try clear c54b1
     try clear c55
     try clear c55b0
     try clear c55b1
     try clear c56
     try clear c57
     try clear c58
     try clear c58b0
     try clear c58b1
     try clear c58b2
     try clear c62
     try clear c62b0
     try clear c62b1
     try clear c62b2
     try clear c66
     try clear c68
     try clear c69
     try clear c71
     try clear c73
     try clear c74
     try clear c77
     try clear c80
     try clear c81
     try clear c85
     try clear c87
     try clear c88
     try clear c89
     try clear c92
     try clear c95
     try clear c96
     try clear c97
     try clear c100
     try clear c104
     try clear c106
     try clear c107
     try clear c110
     try clear c117
     try clear c118
     try clear c121
     try clear c126
     try clear c127
     try clear hcz101_0
     try clear hcz101_1
     try clear hcz101_2
     try clear hcz108_0
     try clear hcz108_1
     try clear hcz108_2
     try clear hcz111_0
     try clear hcz111_1
     try clear hcz111_2
     try clear hcz113_0
     try clear hcz113_1
     try clear hcz113_2
     try clear hcz115_0
     try clear hcz115_1
     try clear hcz115_2
     try clear hcz119_0
     try clear hcz119_1
     try clear hcz119_2
     try clear hcz122_0
     try clear hcz122_1
     try clear hcz122_2
     try clear hcz124_0
     try clear hcz124_1
     try clear hcz124_2
     try clear hcz128_0
     try clear hcz128_1
     try clear hcz128_2
     try clear hcz20_0
     try clear hcz20_1
     try clear hcz20_2
     try clear hcz24_0
     try clear hcz24_1
     try clear hcz24_2
     try clear hcz32_0
     try clear hcz32_1
     try clear hcz32_2
     try clear hcz35_0
     try clear hcz35_1
     try clear hcz35_2
     try clear hcz37_0
     try clear hcz37_1
     try clear hcz37_2
     try clear hcz38_0
     try clear hcz38_1
     try clear hcz38_2
     try clear hcz40_0
     try clear hcz40_1
     try clear hcz40_2
     try clear hcz41_0
     try clear hcz41_1
     try clear hcz41_2
     try clear hcz43_0
     try clear hcz43_1
     try clear hcz43_2
     try clear hcz44_0
     try clear hcz44_1
     try clear hcz44_2
     try clear hcz46_0
     try clear hcz46_1
     try clear hcz46_2
     try clear hcz48_0
     try clear hcz48_1
     try clear hcz48_2
     try clear hcz75_0
     try clear hcz75_1
     try clear hcz75_2
     try clear hcz78_0
     try clear hcz78_1
     try clear hcz78_2
     try clear hcz82_0
     try clear hcz82_1
     try clear hcz82_2
     try clear hcz90_0
     try clear hcz90_1
     try clear hcz90_2
     try clear hcz93_0
     try clear hcz93_1
     try clear hcz93_2
     try clear hcz98_0
     try clear hcz98_1
     try clear hcz98_2
     try clear hfz101_0
     try clear hfz101_1
     try clear hfz101_2
     try clear hfz108_0
     try clear hfz108_1
     try clear hfz108_2
     try clear hfz111_0
     try clear hfz111_1
     try clear hfz111_2
     try clear hfz113_0
     try clear hfz113_1
     try clear hfz113_2
     try clear hfz115_0
     try clear hfz115_1
     try clear hfz115_2
     try clear hfz119_0
     try clear hfz119_1
     try clear hfz119_2
     try clear hfz122_0
     try clear hfz122_1
     try clear hfz122_2
     try clear hfz124_0
     try clear hfz124_1
     try clear hfz124_2
     try clear hfz128_0
     try clear hfz128_1
     try clear hfz128_2
     try clear hfz20_0
     try clear hfz20_1
     try clear hfz20_2
     try clear hfz24_0
     try clear hfz24_1
     try clear hfz24_2
     try clear hfz32_0
     try clear hfz32_1
     try clear hfz32_2
     try clear hfz35_0
     try clear hfz35_1
     try clear hfz35_2
     try clear hfz37_0
     try clear hfz37_1
     try clear hfz37_2
     try clear hfz38_0
     try clear hfz38_1
     try clear hfz38_2
     try clear hfz40_0
     try clear hfz40_1
     try clear hfz40_2
     try clear hfz41_0
     try clear hfz41_1
     try clear hfz41_2
     try clear hfz43_0
     try clear hfz43_1
     try clear hfz43_2
     try clear hfz44_0
     try clear hfz44_1
     try clear hfz44_2
     try clear hfz46_0
     try clear hfz46_1
     try clear hfz46_2
     try clear hfz48_0
     try clear hfz48_1
     try clear hfz48_2
     try clear hfz75_0
     try clear hfz75_1
     try clear hfz75_2
     try clear hfz78_0
     try clear hfz78_1
     try clear hfz78_2
     try clear hfz82_0
     try clear hfz82_1
     try clear hfz82_2
     try clear hfz90_0
     try clear hfz90_1
     try clear hfz90_2
     try clear hfz93_0
     try clear hfz93_1
     try clear hfz93_2
     try clear hfz98_0
     try clear hfz98_1
     try clear hfz98_2
     try clear p2
     obtain ⟨kq, x141_66, rfl, HA, HJ66, HO_458001, HO_458002, HO_459001, HO_459002, HO_468001, HO_468002, BK457, BK458, BK467, HB⟩ := hcut
     cases kq with
     | zero => exact absurd HA.out (by simp [trustquorumlaw05_SlicesEquivalent.j1])
     | succ kj66 =>
      have H := HA.out
      clear HA
      simp only [trustquorumlaw05_SlicesEquivalent.j1] at H
      by_cases c130 : x141_66 = true
      ·subst c130
       have H1 : (some false) = some r := by rw [if_pos rfl] at H; exact H
       clear H
       have H := H1
       clear H1
       obtain rfl := Option.some.inj H
       go_wp2
       go_ret
       exact ⟨by first | rfl | (simp [errW_none, errW_some] <;> rfl) | (simp [*, errW_none, errW_some] <;> rfl), bB HB⟩
      ·replace c130 := Bool.eq_false_iff.mpr c130
       subst c130
       have H1 : ((trustquorumref02_Satisfied.f kj66 t441 t442 t445 t472).bind fun t496 => ((trustquorumref02_Satisfied.f kj66 t449 t450 t453 t472).bind fun t497 => (if (t471 == (t496 == t497)) = true then ((trustquorumlaw05_awake.f).bind fun t498 => (some t498)) else (some false)))) = some r := by rw [if_neg (show ¬ (false = true) by decide)] at H; exact H
       clear H
       have H := H1
       clear H1
       replace H := Option.bind_eq_some_iff.mp H
       obtain ⟨t496, A1310, H⟩ := H
       replace H : ((trustquorumref02_Satisfied.f kj66 t449 t450 t453 t472).bind fun t497 => (if (t471 == (t496 == t497)) = true then ((trustquorumlaw05_awake.f).bind fun t498 => (some t498)) else (some false))) = some r := H
       have A131 := Aside0.mk A1310
       clear A1310
       replace H := Option.bind_eq_some_iff.mp H
       obtain ⟨t497, A1320, H⟩ := H
       replace H : (if (t471 == (t496 == t497)) = true then ((trustquorumlaw05_awake.f).bind fun t498 => (some t498)) else (some false)) = some r := H
       have A132 := Aside0.mk A1320
       clear A1320
       by_cases c133 : (t471 == (t496 == t497)) = true
       ·rw [if_pos c133] at H
        have c133b0 : (t471 == (t496 == t497)) = true := c133
        (try (have c133b1 : decide (t471 = (t496 == t497)) = true := by simpa using c133))
        (try (have c133b2 : (t471 == (t496 == t497)) = true := by simpa using c133))
        clear c133
        replace H := Option.bind_eq_some_iff.mp H
        obtain ⟨t498, A1340, H⟩ := H
        replace H : (some t498) = some r := H
        have A134 := Aside0.mk A1340
        clear A1340
        obtain rfl := Option.some.inj H
        try go_wp2
        replace HO_458001 := Aside0.mk (Kd.R_drew HO_458001.out)
        replace HO_458002 := Aside0.mk (Kd.R_drew HO_458002.out)
        replace HO_459001 := Aside0.mk (Kd.R_drew HO_459001.out)
        replace HO_459002 := Aside0.mk (Kd.R_drew HO_459002.out)
        replace HO_468001 := Aside0.mk (Kd.V_drew HO_468001.out)
        replace HO_468002 := Aside0.mk (Kd.V_drew HO_468002.out)
        replace BK457 := Aside0.mk (blk_drew BK457.out)
        replace BK458 := Aside0.mk (blk_drew BK458.out)
        replace BK467 := Aside0.mk (blk_drew BK467.out)
        replace HB := Aside0.mk (below_drew1 HB.out)
        refine start_ (n := 13) (S := fun w' => w'.cell? ⟨gb457, 0, none⟩ = some (.int .i64 t441) ∧ w'.cell? ⟨gb457, 1, none⟩ = some (.slice Ao21 t442.length co21) ∧ w'.cell? ⟨gb457, 2, none⟩ = some (.slice Ao22 t445.length co22) ∧ w'.cell? ⟨gb458, 0, none⟩ = some (.int .i64 t449) ∧ w'.cell? ⟨gb458, 1, none⟩ = some (.slice Ao25 t450.length co25) ∧ w'.cell? ⟨gb458, 2, none⟩ = some (.slice Ao26 t453.length co26)) (ds := []) #[false, false, false, false, false, false, false, false, false, false, false, false, false] (by kernel_rfl) rfl rfl ⟨bC0 BK457, bC1 BK457, bC2 BK457, bC0 BK458, bC1 BK458, bC2 BK458⟩ (fun hHeld => ?_); refine with_tabW trustquorumlaw05_SlicesEquivalent.tab14 trustquorumlaw05_SlicesEquivalent.bits14 (fun HT_ HW_ => ?_)
        generalize wc.drew = w135 at HO_458001 HO_458002 HO_459001 HO_459002 HO_468001 HO_468002 BK457 BK458 BK467 HB hHeld ⊢
        refine pureA_ 0 142 HT_ ?_
        refine pureA_ 2 144 HT_ ?_
        refine pureA_ 5 147 HT_ ?_
        refine takeA_ 1 143 HT_ HW_ hHeld ?_
        refine takeA_ 4 146 HT_ HW_ hHeld ?_
        refine one_ (i := 3) (N := some 145) #[true, true, true, true, true, true, false, false, false, false, false, false, false] rfl rfl (one_of HT_.out (by kernel_rfl)) (by decide) (fun K hK => ?_)
        refine goes_ Try.func11 (by kernel_rfl) rfl #[.agg #[.int .i64 t441, .slice Ao21 t442.length co21, .slice Ao22 t445.length co22], .int .i64 t472] (by rfl) rfl rfl (by (try simp only [List.map_toArray, List.map_cons, List.map_nil]); first | done | rfl | (simp only [List.length_drop, List.length_take]; rfl)) ?_
        with_reducible refine (trustquorumref02_Satisfied.calls kj66 t441 _ _ t442 _ _ t445 t472 t496 _ ?side1 ?side2 ?side3 ?side4 A131.out).mono ?_
        (case side1 => exact Kd.uC ((Kd.R_reads' HO_458001.out).2.2))
        (case side2 => exact (Kd.R_reads' HO_458001.out).2.1)
        (case side3 => exact Kd.uC ((Kd.R_reads' HO_458002.out).2.2))
        (case side4 => exact (Kd.R_reads' HO_458002.out).2.1)
        rintro e w136 ⟨rfl, hb⟩
        refine ⟨_, rfl, ?_⟩
        replace HO_458001 := Kd.bR HO_458001 hb
        replace HO_458002 := Kd.bR HO_458002 hb
        replace HO_459001 := Kd.bR HO_459001 hb
        replace HO_459002 := Kd.bR HO_459002 hb
        replace HO_468001 := Kd.bV HO_468001 hb
        replace HO_468002 := Kd.bV HO_468002 hb
        replace BK457 := bb BK457 hb
        replace BK458 := bb BK458 hb
        replace BK467 := bb BK467 hb
        replace HB := bs HB hb
        (try clear hb)
        (try clear hb2)
        (try clear hk)
        (try clear hi)
        refine hK.out _ _ ⟨bC0 BK457, bC1 BK457, bC2 BK457, bC0 BK458, bC1 BK458, bC2 BK458⟩ (fun hHeld => ?_)
        clear hK K
        refine normA_ ?_
        refine one_ (i := 6) (N := some 148) #[true, true, true, true, true, true, true, false, false, false, false, false, false] rfl rfl (one_of HT_.out (by kernel_rfl)) (by decide) (fun K hK => ?_)
        refine goes_ Try.func11 (by kernel_rfl) rfl #[.agg #[.int .i64 t449, .slice Ao25 t450.length co25, .slice Ao26 t453.length co26], .int .i64 t472] (by rfl) rfl rfl (by (try simp only [List.map_toArray, List.map_cons, List.map_nil]); first | done | rfl | (simp only [List.length_drop, List.length_take]; rfl)) ?_
        with_reducible refine (trustquorumref02_Satisfied.calls kj66 t449 _ _ t450 _ _ t453 t472 t497 _ ?side1 ?side2 ?side3 ?side4 A132.out).mono ?_
        (case side1 => exact Kd.uC ((Kd.R_reads' HO_459001.out).2.2))
        (case side2 => exact (Kd.R_reads' HO_459001.out).2.1)
        (case side3 => exact Kd.uC ((Kd.R_reads' HO_459002.out).2.2))
        (case side4 => exact (Kd.R_reads' HO_459002.out).2.1)
        rintro e w137 ⟨rfl, hb⟩
        refine ⟨_, rfl, ?_⟩
        replace HO_458001 := Kd.bR HO_458001 hb
        replace HO_458002 := Kd.bR HO_458002 hb
        replace HO_459001 := Kd.bR HO_459001 hb
        replace HO_459002 := Kd.bR HO_459002 hb
        replace HO_468001 := Kd.bV HO_468001 hb
        replace HO_468002 := Kd.bV HO_468002 hb
        replace BK457 := bb BK457 hb
        replace BK458 := bb BK458 hb
        replace BK467 := bb BK467 hb
        replace HB := bs HB hb
        (try clear hb)
        (try clear hb2)
        (try clear hk)
        (try clear hi)
        refine hK.out _ _ ⟨bC0 BK457, bC1 BK457, bC2 BK457, bC0 BK458, bC1 BK458, bC2 BK458⟩ (fun hHeld => ?_)
        clear hK K
        refine normA_ ?_
        refine pureA_ 7 149 HT_ ?_
        refine pureA_ 8 150 HT_ ?_
        refine pureA_ 9 151 HT_ ?_
        refine one_ (i := 10) (N := some 152) #[true, true, true, true, true, true, true, true, true, true, true, false, false] rfl rfl (one_of HT_.out (by kernel_rfl)) (by decide) (fun K hK => ?_)
        refine goes_ Try.func13 (by kernel_rfl) rfl #[] (by rfl) rfl rfl (by (try simp only [List.map_toArray, List.map_cons, List.map_nil]); first | done | rfl | (simp only [List.length_drop, List.length_take]; rfl)) ?_
        with_reducible refine (trustquorumlaw05_awake.calls  t498 _ A134.out).mono ?_
        rintro e w138 ⟨rfl, hb⟩
        refine ⟨_, rfl, ?_⟩
        replace HO_458001 := Kd.bR HO_458001 hb
        replace HO_458002 := Kd.bR HO_458002 hb
        replace HO_459001 := Kd.bR HO_459001 hb
        replace HO_459002 := Kd.bR HO_459002 hb
        replace HO_468001 := Kd.bV HO_468001 hb
        replace HO_468002 := Kd.bV HO_468002 hb
        replace BK457 := bb BK457 hb
        replace BK458 := bb BK458 hb
        replace BK467 := bb BK467 hb
        replace HB := bs HB hb
        (try clear hb)
        (try clear hb2)
        (try clear hk)
        (try clear hi)
        refine hK.out _ _ ⟨bC0 BK457, bC1 BK457, bC2 BK457, bC0 BK458, bC1 BK458, bC2 BK458⟩ (fun hHeld => ?_)
        clear hK K
        refine normA_ ?_
        refine pureA_ 11 153 HT_ ?_
        refine pureA_ 12 2 HT_ ?_
        refine done_ (done_of HT_.out (by kernel_rfl)) ?_
        try go_wp2
        go_ret
        exact ⟨by first | rfl | (simp [errW_none, errW_some] <;> rfl) | (simp [*, errW_none, errW_some] <;> rfl), bB HB⟩
       ·rw [if_neg c133] at H
        have c133b0 : (t471 == (t496 == t497)) = false := by simpa using c133
        (try (have c133b1 : decide (t471 = (t496 == t497)) = false := by simpa using c133))
        (try (have c133b2 : (t471 == (t496 == t497)) = false := by simpa using c133))
        (try (have c133b3 : ¬ (t471 = (t496 == t497)) := by simpa using c133))
        clear c133
        obtain rfl := Option.some.inj H
        try go_wp2
        replace HO_458001 := Aside0.mk (Kd.R_drew HO_458001.out)
        replace HO_458002 := Aside0.mk (Kd.R_drew HO_458002.out)
        replace HO_459001 := Aside0.mk (Kd.R_drew HO_459001.out)
        replace HO_459002 := Aside0.mk (Kd.R_drew HO_459002.out)
        replace HO_468001 := Aside0.mk (Kd.V_drew HO_468001.out)
        replace HO_468002 := Aside0.mk (Kd.V_drew HO_468002.out)
        replace BK457 := Aside0.mk (blk_drew BK457.out)
        replace BK458 := Aside0.mk (blk_drew BK458.out)
        replace BK467 := Aside0.mk (blk_drew BK467.out)
        replace HB := Aside0.mk (below_drew1 HB.out)
        refine start_ (n := 13) (S := fun w' => w'.cell? ⟨gb457, 0, none⟩ = some (.int .i64 t441) ∧ w'.cell? ⟨gb457, 1, none⟩ = some (.slice Ao21 t442.length co21) ∧ w'.cell? ⟨gb457, 2, none⟩ = some (.slice Ao22 t445.length co22) ∧ w'.cell? ⟨gb458, 0, none⟩ = some (.int .i64 t449) ∧ w'.cell? ⟨gb458, 1, none⟩ = some (.slice Ao25 t450.length co25) ∧ w'.cell? ⟨gb458, 2, none⟩ = some (.slice Ao26 t453.length co26)) (ds := []) #[false, false, false, false, false, false, false, false, false, false, false, false, false] (by kernel_rfl) rfl rfl ⟨bC0 BK457, bC1 BK457, bC2 BK457, bC0 BK458, bC1 BK458, bC2 BK458⟩ (fun hHeld => ?_); refine with_tabW trustquorumlaw05_SlicesEquivalent.tab14 trustquorumlaw05_SlicesEquivalent.bits14 (fun HT_ HW_ => ?_)
        generalize wc.drew = w139 at HO_458001 HO_458002 HO_459001 HO_459002 HO_468001 HO_468002 BK457 BK458 BK467 HB hHeld ⊢
        refine pureA_ 0 142 HT_ ?_
        refine pureA_ 2 144 HT_ ?_
        refine pureA_ 5 147 HT_ ?_
        refine takeA_ 1 143 HT_ HW_ hHeld ?_
        refine takeA_ 4 146 HT_ HW_ hHeld ?_
        refine one_ (i := 3) (N := some 145) #[true, true, true, true, true, true, false, false, false, false, false, false, false] rfl rfl (one_of HT_.out (by kernel_rfl)) (by decide) (fun K hK => ?_)
        refine goes_ Try.func11 (by kernel_rfl) rfl #[.agg #[.int .i64 t441, .slice Ao21 t442.length co21, .slice Ao22 t445.length co22], .int .i64 t472] (by rfl) rfl rfl (by (try simp only [List.map_toArray, List.map_cons, List.map_nil]); first | done | rfl | (simp only [List.length_drop, List.length_take]; rfl)) ?_
        with_reducible refine (trustquorumref02_Satisfied.calls kj66 t441 _ _ t442 _ _ t445 t472 t496 _ ?side1 ?side2 ?side3 ?side4 A131.out).mono ?_
        (case side1 => exact Kd.uC ((Kd.R_reads' HO_458001.out).2.2))
        (case side2 => exact (Kd.R_reads' HO_458001.out).2.1)
        (case side3 => exact Kd.uC ((Kd.R_reads' HO_458002.out).2.2))
        (case side4 => exact (Kd.R_reads' HO_458002.out).2.1)
        rintro e w140 ⟨rfl, hb⟩
        refine ⟨_, rfl, ?_⟩
        replace HO_458001 := Kd.bR HO_458001 hb
        replace HO_458002 := Kd.bR HO_458002 hb
        replace HO_459001 := Kd.bR HO_459001 hb
        replace HO_459002 := Kd.bR HO_459002 hb
        replace HO_468001 := Kd.bV HO_468001 hb
        replace HO_468002 := Kd.bV HO_468002 hb
        replace BK457 := bb BK457 hb
        replace BK458 := bb BK458 hb
        replace BK467 := bb BK467 hb
        replace HB := bs HB hb
        (try clear hb)
        (try clear hb2)
        (try clear hk)
        (try clear hi)
        refine hK.out _ _ ⟨bC0 BK457, bC1 BK457, bC2 BK457, bC0 BK458, bC1 BK458, bC2 BK458⟩ (fun hHeld => ?_)
        clear hK K
        refine normA_ ?_
        refine one_ (i := 6) (N := some 148) #[true, true, true, true, true, true, true, false, false, false, false, false, false] rfl rfl (one_of HT_.out (by kernel_rfl)) (by decide) (fun K hK => ?_)
        refine goes_ Try.func11 (by kernel_rfl) rfl #[.agg #[.int .i64 t449, .slice Ao25 t450.length co25, .slice Ao26 t453.length co26], .int .i64 t472] (by rfl) rfl rfl (by (try simp only [List.map_toArray, List.map_cons, List.map_nil]); first | done | rfl | (simp only [List.length_drop, List.length_take]; rfl)) ?_
        with_reducible refine (trustquorumref02_Satisfied.calls kj66 t449 _ _ t450 _ _ t453 t472 t497 _ ?side1 ?side2 ?side3 ?side4 A132.out).mono ?_
        (case side1 => exact Kd.uC ((Kd.R_reads' HO_459001.out).2.2))
        (case side2 => exact (Kd.R_reads' HO_459001.out).2.1)
        (case side3 => exact Kd.uC ((Kd.R_reads' HO_459002.out).2.2))
        (case side4 => exact (Kd.R_reads' HO_459002.out).2.1)
        rintro e w141 ⟨rfl, hb⟩
        refine ⟨_, rfl, ?_⟩
        replace HO_458001 := Kd.bR HO_458001 hb
        replace HO_458002 := Kd.bR HO_458002 hb
        replace HO_459001 := Kd.bR HO_459001 hb
        replace HO_459002 := Kd.bR HO_459002 hb
        replace HO_468001 := Kd.bV HO_468001 hb
        replace HO_468002 := Kd.bV HO_468002 hb
        replace BK457 := bb BK457 hb
        replace BK458 := bb BK458 hb
        replace BK467 := bb BK467 hb
        replace HB := bs HB hb
        (try clear hb)
        (try clear hb2)
        (try clear hk)
        (try clear hi)
        refine hK.out _ _ ⟨bC0 BK457, bC1 BK457, bC2 BK457, bC0 BK458, bC1 BK458, bC2 BK458⟩ (fun hHeld => ?_)
        clear hK K
        refine normA_ ?_
        refine pureA_ 7 149 HT_ ?_
        refine pureA_ 8 150 HT_ ?_
        refine pureA_ 9 151 HT_ ?_
        refine pureU_ 10 152 HT_ ?_
        refine pureA_ 11 153 HT_ ?_
        refine pureA_ 12 2 HT_ ?_
        refine done_ (done_of HT_.out (by kernel_rfl)) ?_
        try go_wp2
        go_ret
        exact ⟨by first | rfl | (simp [errW_none, errW_some] <;> rfl) | (simp [*, errW_none, errW_some] <;> rfl), bB HB⟩
/-- THE ONE PURE STATEMENT of trustquorumlaw05_SlicesEquivalent: yours. -/
def trustquorumlaw05_SlicesEquivalent.Pure : Prop := ∀ (l0 : List Int), l0.length ≤ maxLen → l0.length * 8 ≤ 140737488351232 → (∀ x ∈ l0, (Lit.int .i64 x).wf = true) → ∃ k, trustquorumlaw05_SlicesEquivalent.f k l0 = some true
theorem trustquorumlaw05_SlicesEquivalent.walk (P : trustquorumlaw05_SlicesEquivalent.Pure) (a0 : Option Addr) (len0 cap0 : Nat) (z0 : List Int) (w : World) (w0 : (a0 = none ∧ len0 = 0 ∧ cap0 = 0 ∧ z0 = []) ∨ ∃ x, a0 = some x ∧ len0 ≤ cap0 ∧ cap0 ≤ maxLen ∧ z0.length = cap0 ∧ (∀ i, i < z0.length → w.cell? (x.add i) = some (.int .i64 (z0.getD i 0))) ∧ ∀ n ∈ z0, (Lit.int .i64 n).wf = true) (y0 : len0 * 8 ≤ 140737488351232) :
 Calls Try.prog 5 #[.slice a0 len0 cap0] w fun e w' => e = .returned (.bool true) ∧ Below w.heap.size w w' := by
 obtain ⟨l0, rfl, hr0, hm0, hw0, hc0⟩ := ReadsInt.ofRowC w0
 obtain ⟨k, h⟩ := P l0 hm0 y0 hw0
 refine (trustquorumlaw05_SlicesEquivalent.calls k _ _ l0 true w (Kd.C_of_reads (d := (0 : Int)) (h1 := fun _ => rfl) hr0) hc0 h).mono ?_
 rintro e w' ⟨rfl, hd⟩
 exact ⟨rfl, hd⟩
end Go.Proofs.Ytfkpimjiaijmgaa.G
end
section
namespace Go.Proofs.Ytfkpimjiaijmgaa.Q
open Go.RowKit Go.Proofs.Ytfkpimjiaijmgaa.G Go.Proofs.YtfkpimjiaijmgaaW.PrintWords Go.Proofs.YtfkpimjiaijmgaaW.PrintLast Go.Proofs.YtfkpimjiaijmgaaW.PrintMore Go.Proofs.YtfkpimjiaijmgaaV
set_option linter.unusedVariables false
/-- A tape: at most 400 numbers; the place lies in it. -/
structure TI (l : List Int) (p : Int) : Prop where
 len : l.length ≤ 400
 lo : 0 ≤ p
 hi : p ≤ l.length
theorem wrap_of {x : Int} (h0 : -9223372036854775808 ≤ x) (h1 : x ≤ 9223372036854775807) : wrap64 x = x := by unfold wrap64; omega
theorem tape_new (l : List Int) : ∃ l', trustquorummake_New.f l = some (l', 0) ∧ TI l' 0 := by
 unfold trustquorummake_New.f
 have h : mn (l.length : Int) 400 ≤ 400 ∧ mn (l.length : Int) 400 ≤ l.length ∧ 0 ≤ mn (l.length : Int) 400 := by unfold mn; split <;> omega
 rw [if_pos h.2.2, if_pos h.2.1]
 refine ⟨_, rfl, ⟨?_, Int.le_refl _, by omega⟩⟩
 rw [List.length_take]; omega
theorem tape_N {l : List Int} {p : Int} (h : TI l p) (n : Int) (hn : 0 < n) (hn2 : n ≤ 4294967296) : ∃ r q, trustquorummake_Tape_N.f l p n = some (r, q) ∧ 0 ≤ r ∧ r < n ∧ TI l q := by
 obtain ⟨h1, h2, h3⟩ := h
 unfold trustquorummake_Tape_N.f
 by_cases c : p ≥ (l.length : Int)
 ·rw [if_pos c]; exact ⟨0, p, rfl, Int.le_refl _, hn, h1, h2, h3⟩
 ·rw [if_neg c, if_pos h2, if_pos (by omega), if_neg (by omega)]
  have hp : wrap64 (p + 1) = p + 1 := wrap_of (by omega) (by omega)
  have t1 := Int.tmod_lt_of_pos (rd l p) hn
  have t2 := Int.lt_tmod_of_pos (rd l p) hn
  rw [hp]
  by_cases c2 : Int.tmod (rd l p) n < 0
  ·rw [if_pos c2, wrap_of (by omega) (by omega)]; exact ⟨_, _, rfl, by omega, by omega, h1, by omega, by omega⟩
  ·rw [if_neg c2]; exact ⟨_, _, rfl, by omega, by omega, h1, by omega, by omega⟩
theorem tape_Range {l : List Int} {p : Int} (h : TI l p) (a b : Int) (hab : a ≤ b) (ha : -1000000 ≤ a) (hb : b ≤ 1000000) : ∃ r q, trustquorummake_Tape_Range.f l p a b = some (r, q) ∧ a ≤ r ∧ r ≤ b ∧ TI l q := by
 unfold trustquorummake_Tape_Range.f
 have w1 : wrap64 (b - a) = b - a := wrap_of (by omega) (by omega)
 have w2 : wrap64 (b - a + 1) = b - a + 1 := wrap_of (by omega) (by omega)
 rw [w1, w2]
 obtain ⟨r, q, e, h0, h1, hq⟩ := tape_N h (b - a + 1) (by omega) (by omega)
 rw [e]
 refine ⟨a + r, q, ?_, by omega, by omega, hq⟩
 simp only [Option.bind_some]
 rw [wrap_of (by omega) (by omega)]
theorem rd_mem {xs : List Int} {i : Int} (h0 : 0 ≤ i) (h1 : i < xs.length) : rd xs i ∈ xs := by
 have : i.toNat < xs.length := by omega
 unfold rd
 rw [List.getD_eq_getElem?_getD, List.getElem?_eq_getElem this]
 exact List.getElem_mem this
end Go.Proofs.Ytfkpimjiaijmgaa.Q
end
section
namespace Go.Proofs.Ytfkpimjiaijmgaa.Q
open Go.RowKit Go.Proofs.Ytfkpimjiaijmgaa.G Go.Proofs.YtfkpimjiaijmgaaW.PrintWords Go.Proofs.YtfkpimjiaijmgaaW.PrintLast Go.Proofs.YtfkpimjiaijmgaaW.PrintMore Go.Proofs.YtfkpimjiaijmgaaV
set_option linter.unusedVariables false
def hasI (s k : Int) : Bool := isSet s && (decide (0 ≤ k) && (decide (k < 10) && s.toNat.testBit k.toNat))
theorem valid_eqI (x : Int) : nodeset_Valid.f x = some (isSet x) := valid_eq x
theorem refValid_eq (x : Int) : trustquorumref01_Valid.f x = some (isSet x) := by
 unfold trustquorumref01_Valid.f isSet
 by_cases h : 0 ≤ x
 ·simp [h, ge_iff_le]; omega
 ·simp [h, ge_iff_le]
theorem has_eq (s k : Int) : nodeset_Has.f s k = some (hasI s k) := by
 unfold nodeset_Has.f hasI
 rw [valid_eqI]
 simp only [Option.bind_some]
 cases hs : isSet s with
 | false => simp
 | true =>
  by_cases h0 : 0 ≤ k
  ·by_cases h1 : k < 10
   ·obtain ⟨n, rfl, hn⟩ := isSet_nat hs
    obtain ⟨m, rfl⟩ := Int.eq_ofNat_of_zero_le h0
    have := (by decide +kernel : ∀ n : Fin 1024, ∀ m : Fin 10, (Go.bits .and .i64 (n.1 : Int) (shl .i64 1 (m.1 : Int)) != 0) = n.1.testBit m.1) ⟨n, hn⟩ ⟨m, by omega⟩
    simp only [ge_iff_le, h0, h1, if_true, decide_true, Bool.true_and, Int.toNat_natCast, this]
   ·simp [ge_iff_le, h0, h1]
  ·simp [ge_iff_le, h0]
theorem refHas_eq (s k : Int) : trustquorumref01_Has.f s k = some (hasI s k) := by
 unfold trustquorumref01_Has.f hasI
 rw [refValid_eq]
 simp only [Option.bind_some]
 cases hs : isSet s with
 | false => simp
 | true =>
  by_cases h0 : 0 ≤ k
  ·by_cases h1 : k < 10
   ·obtain ⟨n, rfl, hn⟩ := isSet_nat hs
    obtain ⟨m, rfl⟩ := Int.eq_ofNat_of_zero_le h0
    have := (by decide +kernel : ∀ n : Fin 1024, ∀ m : Fin 10, (Go.bits .and .i64 (shr .i64 (n.1 : Int) (m.1 : Int)) 1 == 1) = n.1.testBit m.1) ⟨n, hn⟩ ⟨m, by omega⟩
    simp only [ge_iff_le, h0, h1, if_true, decide_true, Bool.true_and, Int.toNat_natCast, this]
   ·simp [ge_iff_le, h0, h1]
  ·simp [ge_iff_le, h0]
end Go.Proofs.Ytfkpimjiaijmgaa.Q
end
section
namespace Go.Proofs.Ytfkpimjiaijmgaa.Q
open Go.RowKit Go.Proofs.Ytfkpimjiaijmgaa.G Go.Proofs.YtfkpimjiaijmgaaW.PrintWords Go.Proofs.YtfkpimjiaijmgaaW.PrintLast Go.Proofs.YtfkpimjiaijmgaaW.PrintMore Go.Proofs.YtfkpimjiaijmgaaV
set_option linter.unusedVariables false
abbrev TT := S27
/-- A trust all of whose lists are short. -/
inductive Sm : TT → Prop
 | mk (a : Int) (l : List Int) (ts : List TT) (h1 : l.length ≤ 1073741824) (h2 : ts.length ≤ 1073741824) (h3 : ∀ t ∈ ts, Sm t) : Sm ⟨a, l, ts⟩
theorem Sm.len {a : Int} {l : List Int} {ts : List TT} (h : Sm ⟨a, l, ts⟩) : l.length ≤ 1073741824 ∧ ts.length ≤ 1073741824 ∧ ∀ t ∈ ts, Sm t := by
 cases h with | mk _ _ _ h1 h2 h3 => exact ⟨h1, h2, h3⟩
theorem rdT_mem {ts : List TT} {i : Int} (h0 : 0 ≤ i) (h1 : i < ts.length) : rd_T27 ts i = ts[i.toNat]'(by omega) := by
 unfold rd_T27
 rw [List.getD_eq_getElem?_getD, List.getElem?_eq_getElem (by omega)]; rfl
theorem ev_val {α : Type} {f : Nat → Option α} {a b : α} (h : Ev f a) (e : a = b) : Ev f b := e ▸ h
def satT : TT → Int → Bool
 | ⟨a, l, ts⟩, s => isSet s && decide (a ≤ ((l.filter (hasI s)).length + (ts.attach.filter fun x => satT x.1 s).length : Nat))
termination_by t => SizeOf.sizeOf t
decreasing_by
 have := List.sizeOf_lt_of_mem x.2
 simp_wf; omega
theorem satT_eq (a : Int) (l : List Int) (ts : List TT) (s : Int) : satT ⟨a, l, ts⟩ s = (isSet s && decide (a ≤ ((l.filter (hasI s)).length + (ts.filter fun x => satT x s).length : Nat))) := by
 have h : (ts.attach.filter fun x => satT x.1 s).length = (ts.filter fun x => satT x s).length := by
  rw [← List.countP_eq_length_filter, ← List.countP_eq_length_filter]
  exact List.countP_attach (l := ts) (p := fun x => satT x s)
 rw [satT, h]
theorem sat_l1 {s : Int} (a : Int) (l : List Int) (ts0 ts : List TT) (hl : ts.length ≤ 1073741824) (ih : ∀ t ∈ ts, Ev (fun k => threshold_Satisfied.f k t.f0 t.f1 t.f2 s) (satT t s)) : ∀ (d i : Nat) (c : Nat), i + d = ts.length → c ≤ 1073741824 + i →
 Ev (fun k => threshold_Satisfied.l1 k s c ts ts.length i a l ts0) (decide (a ≤ (c + ((ts.drop i).filter fun x => satT x s).length : Nat)))
 | 0, i, c, hi, hc => Ev.step (f := fun _ => some (decide (a ≤ (c + ((ts.drop i).filter fun x => satT x s).length : Nat)))) (fun k => by
  simp only [threshold_Satisfied.l1]
  rw [if_neg (by omega), List.drop_of_length_le (by omega)]; simp only [List.filter_nil, List.length_nil, Nat.add_zero, ge_iff_le]; rfl) (Ev.now _)
 | d + 1, i, c, hi, hc => by
  have hlt : i < ts.length := by omega
  have e : (ts.drop i) = ts[i] :: ts.drop (i + 1) := List.drop_eq_getElem_cons hlt
  have w1 : wrap64 ((i : Int) + 1) = ((i + 1 : Nat) : Int) := by rw [wrap_of (by omega) (by omega)]; omega
  have w2 : wrap64 ((c : Int) + 1) = ((c + 1 : Nat) : Int) := by rw [wrap_of (by omega) (by omega)]; omega
  have hr := rdT_mem (ts := ts) (i := (i : Int)) (by omega) (by omega)
  have hi1 := ih ts[i] (List.getElem_mem hlt)
  refine Ev.step (f := fun k => (threshold_Satisfied.f k ts[i].f0 ts[i].f1 ts[i].f2 s).bind fun t => if t = true then threshold_Satisfied.l1 k s ((c + 1 : Nat) : Int) ts ts.length ((i + 1 : Nat) : Int) a l ts0 else threshold_Satisfied.l1 k s c ts ts.length ((i + 1 : Nat) : Int) a l ts0) (fun k => ?_) (Ev.bind hi1 ?_)
  ·simp only [threshold_Satisfied.l1]
   rw [if_pos (by omega), if_pos (by omega), if_pos (by omega), hr, w1, w2]; rfl
  ·rw [e, List.filter_cons]
   cases satT ts[i] s with
   | true =>
    have := sat_l1 a l ts0 ts hl ih d (i + 1) (c + 1) (by omega) (by omega)
    exact ev_val this (by simp [Nat.add_assoc, Nat.add_comm 1])
   | false =>
    have := sat_l1 a l ts0 ts hl ih d (i + 1) c (by omega) (by omega)
    exact ev_val this (by simp)
theorem sat_l0 {s : Int} (a : Int) (l0 l : List Int) (ts : List TT) (hl : l.length ≤ 1073741824) (ht : ts.length ≤ 1073741824) (ih : ∀ t ∈ ts, Ev (fun k => threshold_Satisfied.f k t.f0 t.f1 t.f2 s) (satT t s)) : ∀ (d i : Nat) (c : Nat), i + d = l.length → c ≤ i →
 Ev (fun k => threshold_Satisfied.l0 k s c l l.length i a l0 ts) (decide (a ≤ ((c + ((l.drop i).filter (hasI s)).length) + (ts.filter fun x => satT x s).length : Nat)))
 | 0, i, c, hi, hc => by
  have := sat_l1 (s := s) a l0 ts ts ht ih ts.length 0 c (by omega) (by omega)
  refine ev_val (Ev.step (fun k => ?_) this) (by rw [List.drop_of_length_le (by omega : l.length ≤ i), List.drop_zero]; rfl)
  simp only [threshold_Satisfied.l0]
  rw [if_neg (by omega)]; rfl
 | d + 1, i, c, hi, hc => by
  have hlt : i < l.length := by omega
  have e : (l.drop i) = l[i] :: l.drop (i + 1) := List.drop_eq_getElem_cons hlt
  have w1 : wrap64 ((i : Int) + 1) = ((i + 1 : Nat) : Int) := by rw [wrap_of (by omega) (by omega)]; omega
  have w2 : wrap64 ((c : Int) + 1) = ((c + 1 : Nat) : Int) := by rw [wrap_of (by omega) (by omega)]; omega
  have hr : rd l (i : Int) = l[i] := by unfold rd; rw [List.getD_eq_getElem?_getD, Int.toNat_natCast, List.getElem?_eq_getElem hlt]; rfl
  rw [e, List.filter_cons]
  cases hh : hasI s l[i] with
  | true =>
   have := sat_l0 a l0 l ts hl ht ih d (i + 1) (c + 1) (by omega) (by omega)
   refine ev_val (Ev.step (fun k => ?_) this) (by simp [Nat.add_assoc, Nat.add_comm 1])
   simp only [threshold_Satisfied.l0]
   rw [if_pos (by omega), if_pos (by omega), if_pos (by omega), hr, has_eq, hh]
   simp only [Option.bind_some, if_true]
   rw [w1, w2]
  | false =>
   have := sat_l0 a l0 l ts hl ht ih d (i + 1) c (by omega) (by omega)
   refine ev_val (Ev.step (fun k => ?_) this) (by simp)
   simp only [threshold_Satisfied.l0]
   rw [if_pos (by omega), if_pos (by omega), if_pos (by omega), hr, has_eq, hh]
   simp only [Option.bind_some, Bool.false_eq_true, if_false]
   rw [w1]
theorem sat_ev (s : Int) : ∀ {t : TT}, Sm t → Ev (fun k => threshold_Satisfied.f k t.f0 t.f1 t.f2 s) (satT t s) := by
 intro t ht
 induction ht with
 | mk a l ts h1 h2 h3 ih =>
  rw [satT_eq]
  cases hs : isSet s with
  | false =>
   refine Ev.step (f := fun _ => some false) (fun k => ?_) (Ev.now _)
   simp only [threshold_Satisfied.f]
   rw [valid_eqI, hs]; rfl
  | true =>
   have := sat_l0 (s := s) a l l ts h1 h2 ih l.length 0 0 (by omega) (by omega)
   refine ev_val (Ev.step (fun k => ?_) this) (by simp)
   simp only [threshold_Satisfied.f]
   rw [valid_eqI, hs]; rfl
theorem refsat_l1 {s : Int} (a : Int) (l : List Int) (ts0 ts : List TT) (hl : ts.length ≤ 1073741824) (ih : ∀ t ∈ ts, Ev (fun k => trustquorumref02_Satisfied.f k t.f0 t.f1 t.f2 s) (satT t s)) : ∀ (d i : Nat) (c : Nat), i + d = ts.length → c ≤ 1073741824 + i →
 Ev (fun k => trustquorumref02_Satisfied.l1 k s c ts ts.length i a l ts0) (decide (a ≤ (c + ((ts.drop i).filter fun x => satT x s).length : Nat)))
 | 0, i, c, hi, hc => Ev.step (f := fun _ => some (decide (a ≤ (c + ((ts.drop i).filter fun x => satT x s).length : Nat)))) (fun k => by
  simp only [trustquorumref02_Satisfied.l1]
  rw [if_neg (by omega), List.drop_of_length_le (by omega)]; simp only [List.filter_nil, List.length_nil, Nat.add_zero, ge_iff_le]; rfl) (Ev.now _)
 | d + 1, i, c, hi, hc => by
  have hlt : i < ts.length := by omega
  have e : (ts.drop i) = ts[i] :: ts.drop (i + 1) := List.drop_eq_getElem_cons hlt
  have w1 : wrap64 ((i : Int) + 1) = ((i + 1 : Nat) : Int) := by rw [wrap_of (by omega) (by omega)]; omega
  have w2 : wrap64 ((c : Int) + 1) = ((c + 1 : Nat) : Int) := by rw [wrap_of (by omega) (by omega)]; omega
  have hr := rdT_mem (ts := ts) (i := (i : Int)) (by omega) (by omega)
  have hi1 := ih ts[i] (List.getElem_mem hlt)
  refine Ev.step (f := fun k => (trustquorumref02_Satisfied.f k ts[i].f0 ts[i].f1 ts[i].f2 s).bind fun t => if t = true then trustquorumref02_Satisfied.l1 k s ((c + 1 : Nat) : Int) ts ts.length ((i + 1 : Nat) : Int) a l ts0 else trustquorumref02_Satisfied.l1 k s c ts ts.length ((i + 1 : Nat) : Int) a l ts0) (fun k => ?_) (Ev.bind hi1 ?_)
  ·simp only [trustquorumref02_Satisfied.l1]
   rw [if_pos (by omega), if_pos (by omega), if_pos (by omega), hr, w1, w2]; rfl
  ·rw [e, List.filter_cons]
   cases satT ts[i] s with
   | true =>
    have := refsat_l1 a l ts0 ts hl ih d (i + 1) (c + 1) (by omega) (by omega)
    exact ev_val this (by simp [Nat.add_assoc, Nat.add_comm 1])
   | false =>
    have := refsat_l1 a l ts0 ts hl ih d (i + 1) c (by omega) (by omega)
    exact ev_val this (by simp)
theorem refsat_l0 {s : Int} (a : Int) (l0 l : List Int) (ts : List TT) (hl : l.length ≤ 1073741824) (ht : ts.length ≤ 1073741824) (ih : ∀ t ∈ ts, Ev (fun k => trustquorumref02_Satisfied.f k t.f0 t.f1 t.f2 s) (satT t s)) : ∀ (d i : Nat) (c : Nat), i + d = l.length → c ≤ i →
 Ev (fun k => trustquorumref02_Satisfied.l0 k s c l l.length i a l0 ts) (decide (a ≤ ((c + ((l.drop i).filter (hasI s)).length) + (ts.filter fun x => satT x s).length : Nat)))
 | 0, i, c, hi, hc => by
  have := refsat_l1 (s := s) a l0 ts ts ht ih ts.length 0 c (by omega) (by omega)
  refine ev_val (Ev.step (fun k => ?_) this) (by rw [List.drop_of_length_le (by omega : l.length ≤ i), List.drop_zero]; rfl)
  simp only [trustquorumref02_Satisfied.l0]
  rw [if_neg (by omega)]; rfl
 | d + 1, i, c, hi, hc => by
  have hlt : i < l.length := by omega
  have e : (l.drop i) = l[i] :: l.drop (i + 1) := List.drop_eq_getElem_cons hlt
  have w1 : wrap64 ((i : Int) + 1) = ((i + 1 : Nat) : Int) := by rw [wrap_of (by omega) (by omega)]; omega
  have w2 : wrap64 ((c : Int) + 1) = ((c + 1 : Nat) : Int) := by rw [wrap_of (by omega) (by omega)]; omega
  have hr : rd l (i : Int) = l[i] := by unfold rd; rw [List.getD_eq_getElem?_getD, Int.toNat_natCast, List.getElem?_eq_getElem hlt]; rfl
  rw [e, List.filter_cons]
  cases hh : hasI s l[i] with
  | true =>
   have := refsat_l0 a l0 l ts hl ht ih d (i + 1) (c + 1) (by omega) (by omega)
   refine ev_val (Ev.step (fun k => ?_) this) (by simp [Nat.add_assoc, Nat.add_comm 1])
   simp only [trustquorumref02_Satisfied.l0]
   rw [if_pos (by omega), if_pos (by omega), if_pos (by omega), hr, refHas_eq, hh]
   simp only [Option.bind_some, if_true]
   rw [w1, w2]
  | false =>
   have := refsat_l0 a l0 l ts hl ht ih d (i + 1) c (by omega) (by omega)
   refine ev_val (Ev.step (fun k => ?_) this) (by simp)
   simp only [trustquorumref02_Satisfied.l0]
   rw [if_pos (by omega), if_pos (by omega), if_pos (by omega), hr, refHas_eq, hh]
   simp only [Option.bind_some, Bool.false_eq_true, if_false]
   rw [w1]
theorem refsat_ev (s : Int) : ∀ {t : TT}, Sm t → Ev (fun k => trustquorumref02_Satisfied.f k t.f0 t.f1 t.f2 s) (satT t s) := by
 intro t ht
 induction ht with
 | mk a l ts h1 h2 h3 ih =>
  rw [satT_eq]
  cases hs : isSet s with
  | false =>
   refine Ev.step (f := fun _ => some false) (fun k => ?_) (Ev.now _)
   simp only [trustquorumref02_Satisfied.f]
   rw [refValid_eq, hs]; rfl
  | true =>
   have := refsat_l0 (s := s) a l l ts h1 h2 ih l.length 0 0 (by omega) (by omega)
   refine ev_val (Ev.step (fun k => ?_) this) (by simp)
   simp only [trustquorumref02_Satisfied.f]
   rw [refValid_eq, hs]; rfl
end Go.Proofs.Ytfkpimjiaijmgaa.Q
end
section
namespace Go.Proofs.Ytfkpimjiaijmgaa.Q
open Go.RowKit Go.Proofs.Ytfkpimjiaijmgaa.G Go.Proofs.YtfkpimjiaijmgaaW.PrintWords Go.Proofs.YtfkpimjiaijmgaaW.PrintLast Go.Proofs.YtfkpimjiaijmgaaW.PrintMore Go.Proofs.YtfkpimjiaijmgaaV
set_option linter.unusedVariables false
def ofV : Nat → List Int → Int × Int
 | n, [] => ((n : Int), 0)
 | n, x :: l => if isNode x then (if n.testBit x.toNat then (0, 6) else ofV (n ||| 2 ^ x.toNat) l) else (0, 5)
theorem or_bit : ∀ (n : Nat), n < 1024 → ∀ m : Nat, m < 10 → Go.bits .or .i64 (n : Int) (shl .i64 1 (m : Int)) = ((n ||| 2 ^ m : Nat) : Int) ∧ n ||| 2 ^ m < 1024 := fun n hn m hm =>
 (by decide +kernel : ∀ n : Fin 1024, ∀ m : Fin 10, Go.bits .or .i64 (n.1 : Int) (shl .i64 1 (m.1 : Int)) = ((n.1 ||| 2 ^ m.1 : Nat) : Int) ∧ n.1 ||| 2 ^ m.1 < 1024) ⟨n, hn⟩ ⟨m, hm⟩
theorem isNode_nat {x : Int} (h : isNode x = true) : ∃ m : Nat, x = (m : Int) ∧ m < 10 := by
 simp only [isNode, Bool.and_eq_true, decide_eq_true_eq] at h
 exact ⟨x.toNat, by omega, by omega⟩
theorem set_of_lt {n : Nat} (h : n < 1024) : isSet (n : Int) = true := by simp [isSet]; omega
theorem has_nat {n m : Nat} (hn : n < 1024) (hm : m < 10) : hasI (n : Int) (m : Int) = n.testBit m := by
 simp [hasI, set_of_lt hn]; omega
theorem rd_get {l : List Int} {i : Nat} (h : i < l.length) : rd l (i : Int) = l[i] := by
 unfold rd; rw [List.getD_eq_getElem?_getD, Int.toNat_natCast, List.getElem?_eq_getElem h]; rfl
theorem up {i : Nat} (h : i ≤ 4611686018427387904) : wrap64 ((i : Int) + 1) = ((i + 1 : Nat) : Int) := by rw [wrap_of (by omega) (by omega)]; omega
theorem of_l0 {l : List Int} (hl : l.length ≤ 1073741824) : ∀ (d i n : Nat), i + d = l.length → n < 1024 → Ev (fun k => nodeset_Of.l0 k n l l.length i) (ofV n (l.drop i))
 | 0, i, n, hi, hn => by
  rw [List.drop_of_length_le (by omega)]
  refine Ev.step (f := fun _ => some ((n : Int), 0)) (fun k => ?_) (Ev.now _)
  simp only [nodeset_Of.l0]; rw [if_neg (by omega)]
 | d + 1, i, n, hi, hn => by
  have hlt : i < l.length := by omega
  have e : (l.drop i) = l[i] :: l.drop (i + 1) := List.drop_eq_getElem_cons hlt
  have hr := rd_get hlt
  rw [e]
  cases hx : isNode l[i] with
  | false =>
   refine ev_val (a := (0, 5)) ?_ (by rw [ofV, hx]; rfl)
   refine Ev.step (f := fun k => nodeset_Of.j1 k n l[i] l l.length i true) (fun k => ?_) (Ev.step (f := fun _ => some (0, 5)) (fun k => by simp only [nodeset_Of.j1]; rfl) (Ev.now _))
   simp only [nodeset_Of.l0]
   rw [if_pos (by omega), if_pos (by omega), if_pos (by omega), hr]
   have hx' : ¬ (0 ≤ l[i] ∧ l[i] < 10) := by simpa [isNode] using hx
   by_cases c : l[i] < 0
   ·rw [if_pos c]
   ·rw [if_neg c, decide_eq_true (by omega)]
  | true =>
   obtain ⟨m, em, hm⟩ := isNode_nat hx
   obtain ⟨hb, hb2⟩ := or_bit n hn m hm
   have ih := of_l0 hl d (i + 1) (n ||| 2 ^ m) (by omega) hb2
   refine Ev.step (f := fun k => nodeset_Of.j1 k n (m : Int) l l.length i false) (fun k => ?_) ?_
   ·simp only [nodeset_Of.l0]
    rw [if_pos (by omega), if_pos (by omega), if_pos (by omega), hr, em, if_neg (by omega), decide_eq_false (by omega)]
   ·cases ht : n.testBit m with
    | true =>
     refine ev_val (a := (0, 6)) (Ev.step (f := fun _ => some (0, 6)) (fun k => ?_) (Ev.now _)) (by rw [ofV, hx, em, Int.toNat_natCast, ht]; rfl)
     simp only [nodeset_Of.j1]
     rw [has_eq, has_nat hn hm, ht]; rfl
    | false =>
     refine ev_val (Ev.step (fun k => ?_) ih) (by rw [ofV, hx, em, Int.toNat_natCast, ht]; rfl)
     simp only [nodeset_Of.j1]
     rw [has_eq, has_nat hn hm, ht]
     simp only [Option.bind_some, Bool.false_eq_true, if_false]
     rw [if_pos (by omega), hb, up (by omega)]
theorem of_ev {l : List Int} (hl : l.length ≤ 1073741824) : Ev (fun k => nodeset_Of.f k l) (ofV 0 l) := of_l0 hl l.length 0 0 (by omega) (by omega)
theorem refof_l0 {l : List Int} (hl : l.length ≤ 1073741824) : ∀ (d i n : Nat), i + d = l.length → n < 1024 → Ev (fun k => trustquorumref01_Of.l0 k n l l.length i) (ofV n (l.drop i))
 | 0, i, n, hi, hn => by
  rw [List.drop_of_length_le (by omega)]
  refine Ev.step (f := fun _ => some ((n : Int), 0)) (fun k => ?_) (Ev.now _)
  simp only [trustquorumref01_Of.l0]; rw [if_neg (by omega)]
 | d + 1, i, n, hi, hn => by
  have hlt : i < l.length := by omega
  have e : (l.drop i) = l[i] :: l.drop (i + 1) := List.drop_eq_getElem_cons hlt
  have hr := rd_get hlt
  rw [e]
  cases hx : isNode l[i] with
  | false =>
   refine ev_val (a := (0, 5)) ?_ (by rw [ofV, hx]; rfl)
   refine Ev.step (f := fun k => trustquorumref01_Of.j1 k n l[i] l l.length i true) (fun k => ?_) (Ev.step (f := fun _ => some (0, 5)) (fun k => by simp only [trustquorumref01_Of.j1]; rfl) (Ev.now _))
   simp only [trustquorumref01_Of.l0]
   rw [if_pos (by omega), if_pos (by omega), if_pos (by omega), hr]
   have hx' : ¬ (0 ≤ l[i] ∧ l[i] < 10) := by simpa [isNode] using hx
   by_cases c : l[i] < 0
   ·rw [if_pos c]
   ·rw [if_neg c, decide_eq_true (by omega)]
  | true =>
   obtain ⟨m, em, hm⟩ := isNode_nat hx
   obtain ⟨hb, hb2⟩ := or_bit n hn m hm
   have ih := refof_l0 hl d (i + 1) (n ||| 2 ^ m) (by omega) hb2
   refine Ev.step (f := fun k => trustquorumref01_Of.j1 k n (m : Int) l l.length i false) (fun k => ?_) ?_
   ·simp only [trustquorumref01_Of.l0]
    rw [if_pos (by omega), if_pos (by omega), if_pos (by omega), hr, em, if_neg (by omega), decide_eq_false (by omega)]
   ·cases ht : n.testBit m with
    | true =>
     refine ev_val (a := (0, 6)) (Ev.step (f := fun _ => some (0, 6)) (fun k => ?_) (Ev.now _)) (by rw [ofV, hx, em, Int.toNat_natCast, ht]; rfl)
     simp only [trustquorumref01_Of.j1]
     rw [refHas_eq, has_nat hn hm, ht]; rfl
    | false =>
     refine ev_val (Ev.step (fun k => ?_) ih) (by rw [ofV, hx, em, Int.toNat_natCast, ht]; rfl)
     simp only [trustquorumref01_Of.j1]
     rw [refHas_eq, has_nat hn hm, ht]
     simp only [Option.bind_some, Bool.false_eq_true, if_false]
     rw [if_pos (by omega), hb, up (by omega)]
theorem refof_ev {l : List Int} (hl : l.length ≤ 1073741824) : Ev (fun k => trustquorumref01_Of.f k l) (ofV 0 l) := refof_l0 hl l.length 0 0 (by omega) (by omega)
def depthT : TT → Nat
 | ⟨_, _, ts⟩ => ts.attach.foldr (fun x r => max (depthT x.1) r) 0 + 1
termination_by t => SizeOf.sizeOf t
decreasing_by
 have := List.sizeOf_lt_of_mem x.2
 simp_wf; omega
theorem depthT_eq (a : Int) (l : List Int) (ts : List TT) : depthT ⟨a, l, ts⟩ = ts.foldr (fun x r => max (depthT x) r) 0 + 1 := by
 rw [depthT]; exact congrArg (· + 1) (List.foldr_attach (l := ts) (f := fun x r => max (depthT x) r) (b := 0))
def sizeT : TT → Nat
 | ⟨_, l, ts⟩ => l.length + ts.length + ts.attach.foldr (fun x r => sizeT x.1 + r) 0
termination_by t => SizeOf.sizeOf t
decreasing_by
 have := List.sizeOf_lt_of_mem x.2
 simp_wf; omega
theorem sizeT_eq (a : Int) (l : List Int) (ts : List TT) : sizeT ⟨a, l, ts⟩ = l.length + ts.length + ts.foldr (fun x r => sizeT x + r) 0 := by
 rw [sizeT]; exact congrArg (l.length + ts.length + ·) (List.foldr_attach (l := ts) (f := fun x r => sizeT x + r) (b := 0))
/-- At most d levels, and not too large. -/
def SmD : Nat → TT → Prop
 | 0, _ => False
 | d + 1, ⟨a, l, ts⟩ => (l.length ≤ 1000000 ∧ sizeT ⟨a, l, ts⟩ ≤ 1000000) ∧ ts.length ≤ 1000000 ∧ ∀ c ∈ ts, SmD d c
/-- .. and all nodes below n. -/
def SmN (n : Nat) : Nat → TT → Prop
 | 0, _ => False
 | d + 1, ⟨_, l, ts⟩ => l.length ≤ 10 ∧ ts.length ≤ 3 ∧ (∀ x ∈ l, 0 ≤ x ∧ x < (n : Int)) ∧ ∀ c ∈ ts, SmN n d c
theorem SmD.sm : ∀ {d : Nat} {t : TT}, SmD d t → Sm t
 | 0, _, h => h.elim
 | d + 1, ⟨_, _, _⟩, h => .mk _ _ _ (by have := h.1; omega) (by have := h.2.1; omega) fun c hc => SmD.sm (h.2.2 c hc)
theorem SmD.more : ∀ {d : Nat} {t : TT}, SmD d t → SmD (d + 1) t
 | 0, _, h => h.elim
 | d + 1, ⟨_, _, _⟩, h => ⟨h.1, h.2.1, fun c hc => SmD.more (h.2.2 c hc)⟩
theorem SmD.upto {d e : Nat} {t : TT} (h : SmD d t) (he : d ≤ e) : SmD e t := by
 induction he with
 | refl => exact h
 | step _ ih => exact ih.more
theorem fold_max {ts : List TT} {f : TT → Nat} {d : Nat} (h : ∀ c ∈ ts, f c ≤ d) : ts.foldr (fun x r => max (f x) r) 0 ≤ d := by
 induction ts with
 | nil => exact Nat.zero_le _
 | cons t ts ih => exact Nat.max_le.2 ⟨h t (List.mem_cons_self ..), ih fun c hc => h c (List.mem_cons_of_mem _ hc)⟩
theorem fold_sum {ts : List TT} {f : TT → Nat} {d : Nat} (h : ∀ c ∈ ts, f c ≤ d) : ts.foldr (fun x r => f x + r) 0 ≤ ts.length * d := by
 induction ts with
 | nil => simp
 | cons t ts ih =>
  have h1 := h t (List.mem_cons_self ..)
  have h2 := ih fun c hc => h c (List.mem_cons_of_mem _ hc)
  simp only [List.foldr_cons, List.length_cons, Nat.succ_mul]; omega
theorem SmD.depth : ∀ {d : Nat} {t : TT}, SmD d t → depthT t ≤ d
 | 0, _, h => h.elim
 | d + 1, ⟨_, _, ts⟩, h => by
  rw [depthT_eq]
  have := fold_max (ts := ts) (f := depthT) (d := d) fun c hc => SmD.depth (h.2.2 c hc)
  omega
theorem SmD.size : ∀ {d : Nat} {t : TT}, SmD d t → sizeT t ≤ 1000000
 | 0, _, h => h.elim
 | d + 1, ⟨_, _, _⟩, h => h.1.2
theorem SmN.size {n : Nat} : ∀ {d : Nat} {t : TT}, SmN n d t → sizeT t ≤ 13 * 4 ^ d
 | 0, _, h => h.elim
 | d + 1, ⟨_, l, ts⟩, h => by
  rw [sizeT_eq]
  have := fold_sum (ts := ts) (f := sizeT) (d := 13 * 4 ^ d) fun c hc => SmN.size (h.2.2.2 c hc)
  have h1 := h.1
  have h2 := h.2.1
  have h3 : ts.length * (13 * 4 ^ d) ≤ 3 * (13 * 4 ^ d) := Nat.mul_le_mul_right _ h2
  have h4 : 1 ≤ 4 ^ d := Nat.one_le_pow _ _ (by omega)
  rw [Nat.pow_succ]; omega
theorem SmN.smd {n : Nat} : ∀ {d : Nat} {t : TT}, SmN n d t → (hd : d ≤ 8 := by omega) → SmD d t
 | 0, _, h, _ => h.elim
 | d + 1, ⟨a, l, ts⟩, h, hd => by
  have hs := SmN.size h
  have hp : 4 ^ (d + 1) ≤ 4 ^ 8 := Nat.pow_le_pow_right (by omega) hd
  exact ⟨⟨by have := h.1; omega, by omega⟩, by have := h.2.1; omega, fun c hc => SmN.smd (h.2.2.2 c hc) (by omega)⟩
theorem depth_l0 {ts : List TT} (hl : ts.length ≤ 1073741824) (ih : ∀ t ∈ ts, Ev (fun k => threshold_Depth.f k t.f0 t.f1 t.f2) (depthT t : Int)) (hd : ∀ t ∈ ts, depthT t ≤ 1000) : ∀ (d i m : Nat), i + d = ts.length → m ≤ 1000 →
 Ev (fun k => threshold_Depth.l0 k m ts ts.length i) ((max m ((ts.drop i).foldr (fun x r => max (depthT x) r) 0) + 1 : Nat) : Int)
 | 0, i, m, hi, hm => by
  refine ev_val (a := ((m + 1 : Nat) : Int)) (Ev.step (f := fun _ => some _) (fun k => ?_) (Ev.now _)) (by rw [List.drop_of_length_le (by omega)]; simp)
  simp only [threshold_Depth.l0]; rw [if_neg (by omega), up (by omega)]
 | d + 1, i, m, hi, hm => by
  have hlt : i < ts.length := by omega
  have e : (ts.drop i) = ts[i] :: ts.drop (i + 1) := List.drop_eq_getElem_cons hlt
  have hr := rdT_mem (ts := ts) (i := (i : Int)) (by omega) (by omega)
  have hdi := hd ts[i] (List.getElem_mem hlt)
  have h2 := depth_l0 hl ih hd d (i + 1) (max m (depthT ts[i])) (by omega) (by omega)
  refine ev_val (Ev.step (f := fun k => (threshold_Depth.f k ts[i].f0 ts[i].f1 ts[i].f2).bind fun t => threshold_Depth.l0 k (mx m t) ts ts.length ((i + 1 : Nat) : Int)) (fun k => ?_) (Ev.bind (ih ts[i] (List.getElem_mem hlt)) (Ev.congr (fun k => ?_) h2))) (by rw [e, List.foldr_cons]; congr 2; omega)
  ·simp only [threshold_Depth.l0]
   rw [if_pos (by omega), if_pos (by omega), if_pos (by omega), hr, up (by omega)]; rfl
  ·have : mx (m : Int) (depthT ts[i] : Int) = ((max m (depthT ts[i]) : Nat) : Int) := by unfold mx; split <;> omega
   rw [this]
theorem depth_ev : ∀ {d : Nat}, d ≤ 1000 → ∀ {t : TT}, SmD d t → Ev (fun k => threshold_Depth.f k t.f0 t.f1 t.f2) (depthT t : Int)
 | 0, _, _, h => h.elim
 | d + 1, hd, ⟨a, l, ts⟩, h => by
  have h0 := depth_l0 (ts := ts) (by have := h.2.1; omega) (fun t ht => depth_ev (by omega) (h.2.2 t ht)) (fun t ht => by have := (h.2.2 t ht).depth; omega) ts.length 0 0 (by omega) (by omega)
  exact ev_val (Ev.step (fun k => by simp only [threshold_Depth.f]; rfl) h0) (by rw [depthT_eq]; simp)
theorem size_l0 {ts : List TT} (hl : ts.length ≤ 1073741824) (ih : ∀ t ∈ ts, Ev (fun k => threshold_Size.f k t.f0 t.f1 t.f2) (sizeT t : Int)) : ∀ (d i m : Nat), i + d = ts.length → m + (ts.drop i).foldr (fun x r => sizeT x + r) 0 ≤ 1073741824 →
 Ev (fun k => threshold_Size.l0 k m ts ts.length i) ((m + (ts.drop i).foldr (fun x r => sizeT x + r) 0 : Nat) : Int)
 | 0, i, m, hi, hm => by
  refine ev_val (a := (m : Int)) (Ev.step (f := fun _ => some _) (fun k => ?_) (Ev.now _)) (by rw [List.drop_of_length_le (by omega)]; simp)
  simp only [threshold_Size.l0]; rw [if_neg (by omega)]
 | d + 1, i, m, hi, hm => by
  have hlt : i < ts.length := by omega
  have e : (ts.drop i) = ts[i] :: ts.drop (i + 1) := List.drop_eq_getElem_cons hlt
  have hr := rdT_mem (ts := ts) (i := (i : Int)) (by omega) (by omega)
  rw [e, List.foldr_cons] at hm
  have h2 := size_l0 hl ih d (i + 1) (m + sizeT ts[i]) (by omega) (by omega)
  refine ev_val (Ev.step (f := fun k => (threshold_Size.f k ts[i].f0 ts[i].f1 ts[i].f2).bind fun t => threshold_Size.l0 k (wrap64 (m + t)) ts ts.length ((i + 1 : Nat) : Int)) (fun k => ?_) (Ev.bind (ih ts[i] (List.getElem_mem hlt)) (Ev.congr (fun k => ?_) h2))) (by rw [e, List.foldr_cons]; congr 1; omega)
  ·simp only [threshold_Size.l0]
   rw [if_pos (by omega), if_pos (by omega), if_pos (by omega), hr, up (by omega)]; rfl
  ·have : wrap64 ((m : Int) + (sizeT ts[i] : Int)) = ((m + sizeT ts[i] : Nat) : Int) := by rw [wrap_of (by omega) (by omega)]; omega
   rw [this]
theorem size_ev : ∀ {d : Nat}, d ≤ 8 → ∀ {t : TT}, SmD d t → Ev (fun k => threshold_Size.f k t.f0 t.f1 t.f2) (sizeT t : Int)
 | 0, _, _, h => h.elim
 | d + 1, hd, ⟨a, l, ts⟩, h => by
  have hs := SmD.size h
  rw [sizeT_eq] at hs
  have h0 := size_l0 (ts := ts) (by have := h.2.1; omega) (fun t ht => size_ev (by omega) (h.2.2 t ht)) ts.length 0 (l.length + ts.length) (by omega) (by rw [List.drop_zero]; omega)
  refine ev_val (Ev.step (fun k => ?_) h0) (by rw [sizeT_eq, List.drop_zero])
  have : wrap64 ((l.length : Int) + (ts.length : Int)) = ((l.length + ts.length : Nat) : Int) := by rw [wrap_of (by omega) (by omega)]; omega
  simp only [threshold_Size.f]
  rw [this]; rfl
theorem refdepth_l0 {ts : List TT} (hl : ts.length ≤ 1073741824) (ih : ∀ t ∈ ts, Ev (fun k => trustquorumref02_Depth.f k t.f0 t.f1 t.f2) (depthT t : Int)) (hd : ∀ t ∈ ts, depthT t ≤ 1000) : ∀ (d i m : Nat), i + d = ts.length → m ≤ 1000 →
 Ev (fun k => trustquorumref02_Depth.l0 k m ts ts.length i) ((max m ((ts.drop i).foldr (fun x r => max (depthT x) r) 0) + 1 : Nat) : Int)
 | 0, i, m, hi, hm => by
  refine ev_val (a := ((m + 1 : Nat) : Int)) (Ev.step (f := fun _ => some _) (fun k => ?_) (Ev.now _)) (by rw [List.drop_of_length_le (by omega)]; simp)
  simp only [trustquorumref02_Depth.l0]; rw [if_neg (by omega), up (by omega)]
 | d + 1, i, m, hi, hm => by
  have hlt : i < ts.length := by omega
  have e : (ts.drop i) = ts[i] :: ts.drop (i + 1) := List.drop_eq_getElem_cons hlt
  have hr := rdT_mem (ts := ts) (i := (i : Int)) (by omega) (by omega)
  have hdi := hd ts[i] (List.getElem_mem hlt)
  have h2 := refdepth_l0 hl ih hd d (i + 1) (max m (depthT ts[i])) (by omega) (by omega)
  refine ev_val (Ev.step (f := fun k => (trustquorumref02_Depth.f k ts[i].f0 ts[i].f1 ts[i].f2).bind fun t => trustquorumref02_Depth.l0 k (mx m t) ts ts.length ((i + 1 : Nat) : Int)) (fun k => ?_) (Ev.bind (ih ts[i] (List.getElem_mem hlt)) (Ev.congr (fun k => ?_) h2))) (by rw [e, List.foldr_cons]; congr 2; omega)
  ·simp only [trustquorumref02_Depth.l0]
   rw [if_pos (by omega), if_pos (by omega), if_pos (by omega), hr, up (by omega)]; rfl
  ·have : mx (m : Int) (depthT ts[i] : Int) = ((max m (depthT ts[i]) : Nat) : Int) := by unfold mx; split <;> omega
   rw [this]
theorem refdepth_ev : ∀ {d : Nat}, d ≤ 1000 → ∀ {t : TT}, SmD d t → Ev (fun k => trustquorumref02_Depth.f k t.f0 t.f1 t.f2) (depthT t : Int)
 | 0, _, _, h => h.elim
 | d + 1, hd, ⟨a, l, ts⟩, h => by
  have h0 := refdepth_l0 (ts := ts) (by have := h.2.1; omega) (fun t ht => refdepth_ev (by omega) (h.2.2 t ht)) (fun t ht => by have := (h.2.2 t ht).depth; omega) ts.length 0 0 (by omega) (by omega)
  exact ev_val (Ev.step (fun k => by simp only [trustquorumref02_Depth.f]; rfl) h0) (by rw [depthT_eq]; simp)
theorem refsize_l0 {ts : List TT} (hl : ts.length ≤ 1073741824) (ih : ∀ t ∈ ts, Ev (fun k => trustquorumref02_Size.f k t.f0 t.f1 t.f2) (sizeT t : Int)) : ∀ (d i m : Nat), i + d = ts.length → m + (ts.drop i).foldr (fun x r => sizeT x + r) 0 ≤ 1073741824 →
 Ev (fun k => trustquorumref02_Size.l0 k m ts ts.length i) ((m + (ts.drop i).foldr (fun x r => sizeT x + r) 0 : Nat) : Int)
 | 0, i, m, hi, hm => by
  refine ev_val (a := (m : Int)) (Ev.step (f := fun _ => some _) (fun k => ?_) (Ev.now _)) (by rw [List.drop_of_length_le (by omega)]; simp)
  simp only [trustquorumref02_Size.l0]; rw [if_neg (by omega)]
 | d + 1, i, m, hi, hm => by
  have hlt : i < ts.length := by omega
  have e : (ts.drop i) = ts[i] :: ts.drop (i + 1) := List.drop_eq_getElem_cons hlt
  have hr := rdT_mem (ts := ts) (i := (i : Int)) (by omega) (by omega)
  rw [e, List.foldr_cons] at hm
  have h2 := refsize_l0 hl ih d (i + 1) (m + sizeT ts[i]) (by omega) (by omega)
  refine ev_val (Ev.step (f := fun k => (trustquorumref02_Size.f k ts[i].f0 ts[i].f1 ts[i].f2).bind fun t => trustquorumref02_Size.l0 k (wrap64 (m + t)) ts ts.length ((i + 1 : Nat) : Int)) (fun k => ?_) (Ev.bind (ih ts[i] (List.getElem_mem hlt)) (Ev.congr (fun k => ?_) h2))) (by rw [e, List.foldr_cons]; congr 1; omega)
  ·simp only [trustquorumref02_Size.l0]
   rw [if_pos (by omega), if_pos (by omega), if_pos (by omega), hr, up (by omega)]; rfl
  ·have : wrap64 ((m : Int) + (sizeT ts[i] : Int)) = ((m + sizeT ts[i] : Nat) : Int) := by rw [wrap_of (by omega) (by omega)]; omega
   rw [this]
theorem refsize_ev : ∀ {d : Nat}, d ≤ 8 → ∀ {t : TT}, SmD d t → Ev (fun k => trustquorumref02_Size.f k t.f0 t.f1 t.f2) (sizeT t : Int)
 | 0, _, _, h => h.elim
 | d + 1, hd, ⟨a, l, ts⟩, h => by
  have hs := SmD.size h
  rw [sizeT_eq] at hs
  have h0 := refsize_l0 (ts := ts) (by have := h.2.1; omega) (fun t ht => refsize_ev (by omega) (h.2.2 t ht)) ts.length 0 (l.length + ts.length) (by omega) (by rw [List.drop_zero]; omega)
  refine ev_val (Ev.step (fun k => ?_) h0) (by rw [sizeT_eq, List.drop_zero])
  have : wrap64 ((l.length : Int) + (ts.length : Int)) = ((l.length + ts.length : Nat) : Int) := by rw [wrap_of (by omega) (by omega)]; omega
  simp only [trustquorumref02_Size.f]
  rw [this]; rfl
def firstT (f : TT → Int) (ts : List TT) : Int := ts.foldr (fun x r => if f x = 0 then r else f x) 0
def chkT : TT → Int
 | ⟨a, l, ts⟩ => if a < 1 ∨ a > ((l.length + ts.length : Nat) : Int) then 4 else if (l.any fun x => !isNode x) = true then 5 else if (ofV 0 l).2 = 0 then ts.attach.foldr (fun x r => if chkT x.1 = 0 then r else chkT x.1) 0 else (ofV 0 l).2
termination_by t => SizeOf.sizeOf t
decreasing_by
 all_goals
  have := List.sizeOf_lt_of_mem x.2
  simp_wf; omega
theorem chkT_eq (a : Int) (l : List Int) (ts : List TT) : chkT ⟨a, l, ts⟩ = if a < 1 ∨ a > ((l.length + ts.length : Nat) : Int) then 4 else if (l.any fun x => !isNode x) = true then 5 else if (ofV 0 l).2 = 0 then firstT chkT ts else (ofV 0 l).2 := by
 have h : ts.attach.foldr (fun x r => if chkT x.1 = 0 then r else chkT x.1) 0 = firstT chkT ts := List.foldr_attach (l := ts) (f := fun x r => if chkT x = 0 then r else chkT x) (b := 0)
 rw [chkT, h]
theorem firstT_zero {f : TT → Int} {ts : List TT} (h : firstT f ts = 0) : ∀ t ∈ ts, f t = 0 := by
 induction ts with
 | nil => intro t ht; cases ht
 | cons t ts ih =>
  unfold firstT at h
  rw [List.foldr_cons] at h
  by_cases c : f t = 0
  ·rw [if_pos c] at h
   intro u hu
   rcases List.mem_cons.1 hu with rfl | hu
   ·exact c
   ·exact ih h u hu
  ·rw [if_neg c] at h; exact absurd h c
theorem kids_l {ts : List TT} (hl : ts.length ≤ 1073741824) (ih : ∀ t ∈ ts, Ev (fun k => threshold_level.f k t.f0 t.f1 t.f2) (chkT t)) : ∀ (d i : Nat), i + d = ts.length →
 Ev (fun k => threshold_level.l0 k ts ts.length i) (firstT chkT (ts.drop i))
 | 0, i, hi => by
  refine ev_val (a := 0) (Ev.step (f := fun _ => some _) (fun k => ?_) (Ev.now _)) (by rw [List.drop_of_length_le (by omega)]; rfl)
  simp only [threshold_level.l0]; rw [if_neg (by omega)]
 | d + 1, i, hi => by
  have hlt : i < ts.length := by omega
  have e : (ts.drop i) = ts[i] :: ts.drop (i + 1) := List.drop_eq_getElem_cons hlt
  have hr := rdT_mem (ts := ts) (i := (i : Int)) (by omega) (by omega)
  have h2 := kids_l hl ih d (i + 1) (by omega)
  refine Ev.step (f := fun k => (threshold_level.f k ts[i].f0 ts[i].f1 ts[i].f2).bind fun t => if t = 0 then threshold_level.l0 k ts ts.length ((i + 1 : Nat) : Int) else some t) (fun k => ?_) (Ev.bind (ih ts[i] (List.getElem_mem hlt)) ?_)
  ·simp only [threshold_level.l0]
   rw [if_pos (by omega), if_pos (by omega), if_pos (by omega), hr, up (by omega)]; rfl
  ·by_cases c : chkT ts[i] = 0
   ·exact ev_val (Ev.congr (fun k => by rw [if_pos c]) h2) (by rw [e, firstT, firstT, List.foldr_cons, if_pos c])
   ·exact ev_val (Ev.congr (fun k => by rw [if_neg c]) (Ev.now (chkT ts[i]))) (by rw [e, firstT, List.foldr_cons, if_neg c])
theorem refkids_l {ts : List TT} (hl : ts.length ≤ 1073741824) (ih : ∀ t ∈ ts, Ev (fun k => trustquorumref02_check.f k t.f0 t.f1 t.f2) (chkT t)) : ∀ (d i : Nat), i + d = ts.length →
 Ev (fun k => trustquorumref02_check.l1 k ts ts.length i) (firstT chkT (ts.drop i))
 | 0, i, hi => by
  refine ev_val (a := 0) (Ev.step (f := fun _ => some _) (fun k => ?_) (Ev.now _)) (by rw [List.drop_of_length_le (by omega)]; rfl)
  simp only [trustquorumref02_check.l1]; rw [if_neg (by omega)]
 | d + 1, i, hi => by
  have hlt : i < ts.length := by omega
  have e : (ts.drop i) = ts[i] :: ts.drop (i + 1) := List.drop_eq_getElem_cons hlt
  have hr := rdT_mem (ts := ts) (i := (i : Int)) (by omega) (by omega)
  have h2 := refkids_l hl ih d (i + 1) (by omega)
  refine Ev.step (f := fun k => (trustquorumref02_check.f k ts[i].f0 ts[i].f1 ts[i].f2).bind fun t => if t = 0 then trustquorumref02_check.l1 k ts ts.length ((i + 1 : Nat) : Int) else some t) (fun k => ?_) (Ev.bind (ih ts[i] (List.getElem_mem hlt)) ?_)
  ·simp only [trustquorumref02_check.l1]
   rw [if_pos (by omega), if_pos (by omega), if_pos (by omega), hr, up (by omega)]; rfl
  ·by_cases c : chkT ts[i] = 0
   ·exact ev_val (Ev.congr (fun k => by rw [if_pos c]) h2) (by rw [e, firstT, firstT, List.foldr_cons, if_pos c])
   ·exact ev_val (Ev.congr (fun k => by rw [if_neg c]) (Ev.now (chkT ts[i]))) (by rw [e, firstT, List.foldr_cons, if_neg c])
theorem refnodes_l (a : Int) (l : List Int) (ts : List TT) (hl : l.length ≤ 1073741824) {r : Int} (h : Ev (fun k => (trustquorumref01_Of.f k l).bind fun b => if b.2 = 0 then trustquorumref02_check.l1 k ts ts.length 0 else some b.2) r) : ∀ (d i : Nat), i + d = l.length →
 Ev (fun k => trustquorumref02_check.l0 k l l.length i a l ts) (if ((l.drop i).any fun x => !isNode x) = true then 5 else r)
 | 0, i, hi => by
  refine ev_val (Ev.step (fun k => ?_) h) (by rw [List.drop_of_length_le (by omega)]; rfl)
  simp only [trustquorumref02_check.l0]; rw [if_neg (by omega)]
 | d + 1, i, hi => by
  have hlt : i < l.length := by omega
  have e : (l.drop i) = l[i] :: l.drop (i + 1) := List.drop_eq_getElem_cons hlt
  have hr := rd_get hlt
  have h2 := refnodes_l a l ts hl h d (i + 1) (by omega)
  rw [e, List.any_cons]
  cases hx : isNode l[i] with
  | false =>
   have hx' : ¬ (0 ≤ l[i] ∧ l[i] < 10) := by simpa [isNode] using hx
   refine ev_val (a := 5) (Ev.step (f := fun _ => some 5) (fun k => ?_) (Ev.now _)) (by simp)
   simp only [trustquorumref02_check.l0]
   rw [if_pos (by omega), if_pos (by omega), if_pos (by omega), hr]
   by_cases c : l[i] < 0
   ·rw [if_pos c]
   ·rw [if_neg c, if_pos (by omega)]
  | true =>
   obtain ⟨m, em, hm⟩ := isNode_nat hx
   refine ev_val (Ev.step (fun k => ?_) h2) (by rfl)
   simp only [trustquorumref02_check.l0]
   rw [if_pos (by omega), if_pos (by omega), if_pos (by omega), hr, em, if_neg (by omega), if_neg (by omega), up (by omega)]
theorem refchk_ev {t : TT} (ht : Sm t) : Ev (fun k => trustquorumref02_check.f k t.f0 t.f1 t.f2) (chkT t) := by
 induction ht with
 | mk a l ts h1 h2 h3 ih =>
  rw [chkT_eq]
  have w : wrap64 ((l.length : Int) + (ts.length : Int)) = ((l.length + ts.length : Nat) : Int) := by rw [wrap_of (by omega) (by omega)]; omega
  by_cases c : a < 1 ∨ a > ((l.length + ts.length : Nat) : Int)
  ·rw [if_pos c]
   refine Ev.step (f := fun k => trustquorumref02_check.j0 k true a l ts) (fun k => ?_) (Ev.step (f := fun _ => some 4) (fun k => by simp only [trustquorumref02_check.j0]; rfl) (Ev.now _))
   simp only [trustquorumref02_check.f]
   by_cases c1 : a < 1
   ·rw [if_pos c1]
   ·rw [if_neg c1, w, decide_eq_true (by omega)]
  ·rw [if_neg c]
   have hk := refkids_l h2 ih ts.length 0 (by omega)
   have h0 := refnodes_l a l ts h1 (r := if (ofV 0 l).2 = 0 then firstT chkT ts else (ofV 0 l).2) (Ev.bind (refof_ev h1) (by
    by_cases z : (ofV 0 l).2 = 0
    ·simp only [if_pos z]; exact hk
    ·simp only [if_neg z]; exact Ev.now _)) l.length 0 (by omega)
   refine Ev.step (f := fun k => trustquorumref02_check.j0 k false a l ts) (fun k => ?_) (Ev.step (fun k => ?_) h0)
   ·simp only [trustquorumref02_check.f]
    rw [if_neg (by omega), w, decide_eq_false (by omega)]
   ·simp only [trustquorumref02_check.j0]; rfl
theorem chk_ev {t : TT} (ht : Sm t) : Ev (fun k => threshold_level.f k t.f0 t.f1 t.f2) (chkT t) := by
 induction ht with
 | mk a l ts h1 h2 h3 ih =>
  rw [chkT_eq]
  have w : wrap64 ((l.length : Int) + (ts.length : Int)) = ((l.length + ts.length : Nat) : Int) := by rw [wrap_of (by omega) (by omega)]; omega
  by_cases c : a < 1 ∨ a > ((l.length + ts.length : Nat) : Int)
  ·rw [if_pos c]
   refine Ev.step (f := fun k => threshold_level.j0 k true a l ts) (fun k => ?_) (Ev.step (f := fun _ => some 4) (fun k => by simp only [threshold_level.j0]; rfl) (Ev.now _))
   simp only [threshold_level.f]
   by_cases c1 : a < 1
   ·rw [if_pos c1]
   ·rw [if_neg c1, w, decide_eq_true (by omega)]
  ·rw [if_neg c]
   have hk := kids_l h2 ih ts.length 0 (by omega)
   refine Ev.step (f := fun k => threshold_level.j0 k false a l ts) (fun k => ?_) ?_
   ·simp only [threshold_level.f]
    rw [if_neg (by omega), w, decide_eq_false (by omega)]
   ·cases hn : (l.any fun x => !isNode x) with
    | true =>
     refine Ev.step (f := fun _ => some 5) (fun k => ?_) (Ev.now _)
     simp only [threshold_level.j0, threshold_level_1.f]
     rw [hn]; rfl
    | false =>
     refine Ev.step (f := fun k => (nodeset_Of.f k l).bind fun b => if b.2 = 0 then threshold_level.l0 k ts ts.length 0 else some b.2) (fun k => ?_) (Ev.bind (of_ev h1) ?_)
     ·simp only [threshold_level.j0, threshold_level_1.f]
      rw [hn]; rfl
     ·by_cases z : (ofV 0 l).2 = 0
      ·simp only [if_pos z]; exact hk
      ·simp only [if_neg z]; exact Ev.now _
def validT (t : TT) : Int := if depthT t > 4 then 3 else if sizeT t > 200 then 3 else chkT t
theorem valid_ev {d : Nat} (hd : d ≤ 8) {t : TT} (h : SmD d t) : Ev (fun k => threshold_Valid.f k t.f0 t.f1 t.f2) (validT t) := by
 have h1 := depth_ev (by omega) h
 have h2 := size_ev hd h
 have h3 := chk_ev h.sm
 unfold validT
 refine Ev.bind h1 ?_
 by_cases c : depthT t > 4
 ·rw [if_pos c]; exact Ev.congr (fun k => if_pos (by omega)) (Ev.now _)
 ·rw [if_neg c]
  refine Ev.congr (fun k => if_neg (by omega)) (Ev.bind h2 ?_)
  by_cases c2 : sizeT t > 200
  ·rw [if_pos c2]; exact Ev.congr (fun k => if_pos (by omega)) (Ev.now _)
  ·rw [if_neg c2]
   exact Ev.congr (fun k => if_neg (by omega)) (Ev.bind h3 (Ev.now _))
theorem refvalid_ev {d : Nat} (hd : d ≤ 8) {t : TT} (h : SmD d t) : Ev (fun k => trustquorumref02_Valid.f k t.f0 t.f1 t.f2) (validT t) := by
 have h1 := refdepth_ev (by omega) h
 have h2 := refsize_ev hd h
 have h3 := refchk_ev h.sm
 unfold validT
 refine Ev.bind h1 ?_
 by_cases c : depthT t > 4
 ·rw [if_pos c]; exact Ev.congr (fun k => if_pos (by omega)) (Ev.now _)
 ·rw [if_neg c]
  refine Ev.congr (fun k => if_neg (by omega)) (Ev.bind h2 ?_)
  by_cases c2 : sizeT t > 200
  ·rw [if_pos c2]; exact Ev.congr (fun k => if_pos (by omega)) (Ev.now _)
  ·rw [if_neg c2]
   exact Ev.congr (fun k => if_neg (by omega)) (Ev.bind h3 (Ev.now _))
theorem valid_chk {t : TT} (h : validT t = 0) : chkT t = 0 ∧ depthT t ≤ 4 ∧ sizeT t ≤ 200 := by
 unfold validT at h
 split at h
 ·exact absurd h (by decide)
 ·split at h
  ·exact absurd h (by decide)
  ·exact ⟨h, by omega, by omega⟩
theorem chk_parts {a : Int} {l : List Int} {ts : List TT} (h : chkT ⟨a, l, ts⟩ = 0) : 1 ≤ a ∧ a ≤ ((l.length + ts.length : Nat) : Int) ∧ (∀ x ∈ l, isNode x = true) ∧ (ofV 0 l).2 = 0 ∧ ∀ t ∈ ts, chkT t = 0 := by
 rw [chkT_eq] at h
 split at h
 ·exact absurd h (by decide)
 ·split at h
  ·exact absurd h (by decide)
  ·rename_i c1 c2
   split at h
   ·rename_i c3
    refine ⟨by omega, by omega, fun x hx => ?_, c3, firstT_zero h⟩
    cases hn : isNode x with
    | true => rfl
    | false => exact absurd (List.any_eq_true.2 ⟨x, hx, by rw [hn]; rfl⟩) c2
   ·rename_i c3; exact absurd h c3
/-- A set that holds more satisfies no less. -/
def subN (a b : Int) : Prop := ∀ i, a.toNat.testBit i = true → b.toNat.testBit i = true
theorem has_mono {s u : Int} (hu : isSet u = true) (h : subN s u) (x : Int) (hx : hasI s x = true) : hasI u x = true := by
 simp only [hasI, Bool.and_eq_true] at hx ⊢
 exact ⟨hu, hx.2.1, hx.2.2.1, h _ hx.2.2.2⟩
theorem filter_mono {α : Type} {p q : α → Bool} {l : List α} (h : ∀ x ∈ l, p x = true → q x = true) : (l.filter p).length ≤ (l.filter q).length := by
 rw [← List.countP_eq_length_filter, ← List.countP_eq_length_filter]
 exact List.countP_mono_left h
theorem sat_mono {s u : Int} (hu : isSet u = true) (hsu : subN s u) {t : TT} (ht : Sm t) (h : satT t s = true) : satT t u = true := by
 induction ht with
 | mk a l ts h1 h2 h3 ih =>
  rw [satT_eq, Bool.and_eq_true, decide_eq_true_eq] at h ⊢
  have e1 := filter_mono (l := l) fun x _ => has_mono hu hsu x
  have e2 := filter_mono (l := ts) (p := fun x => satT x s) (q := fun x => satT x u) fun x hx hs => ih x hx hs
  exact ⟨hu, by omega⟩
end Go.Proofs.Ytfkpimjiaijmgaa.Q
end
section
namespace Go.Proofs.Ytfkpimjiaijmgaa.Q
open Go.RowKit Go.Proofs.Ytfkpimjiaijmgaa.G Go.Proofs.YtfkpimjiaijmgaaW.PrintWords Go.Proofs.YtfkpimjiaijmgaaW.PrintLast Go.Proofs.YtfkpimjiaijmgaaW.PrintMore Go.Proofs.YtfkpimjiaijmgaaV
set_option linter.unusedVariables false
def lex (p q : Int) : Int := if p = 0 then q else p
def cmpL : List Int → List Int → Int
 | [], [] => 0
 | [], _ :: _ => -1
 | _ :: _, [] => 1
 | x :: l, y :: m => lex (sgn x y) (cmpL l m)
mutual
def cmpT : TT → TT → Int
 | ⟨a, l, ts⟩, ⟨b, m, us⟩ => lex (sgn a b) (lex (cmpL l m) (cmpTs ts us))
def cmpTs : List TT → List TT → Int
 | [], [] => 0
 | [], _ :: _ => -1
 | _ :: _, [] => 1
 | x :: l, y :: m => lex (cmpT x y) (cmpTs l m)
end
/-- Three comparisons that fit together. -/
structure Fits (p q r : Int) : Prop where
 a : p = 0 → r = q
 b : q = 0 → r = p
 c : p = -1 → q = -1 → r = -1
 d : p = 1 → q = 1 → r = 1
theorem Fits.lex {p q r p' q' r' : Int} (h : Fits p q r) (h' : p = 0 → q = 0 → Fits p' q' r') : Fits (lex p p') (lex q q') (lex r r') := by
 unfold Q.lex
 by_cases hp : p = 0
 ·by_cases hq : q = 0
  ·have := h.a hp
   rw [if_pos hp, if_pos hq, if_pos (by omega)]; exact h' hp hq
  ·have e := h.a hp
   rw [if_pos hp, if_neg hq, if_neg (by omega), e]
   exact ⟨fun _ => rfl, fun z => absurd z hq, fun _ z => z, fun _ z => z⟩
 ·by_cases hq : q = 0
  ·have e := h.b hq
   rw [if_neg hp, if_pos hq, if_neg (by omega), e]
   exact ⟨fun z => absurd z hp, fun _ => rfl, fun z _ => z, fun z _ => z⟩
  ·rw [if_neg hp, if_neg hq]
   refine ⟨fun z => absurd z hp, fun z => absurd z hq, fun z1 z2 => ?_, fun z1 z2 => ?_⟩
   ·rw [h.c z1 z2]; rfl
   ·rw [h.d z1 z2]; rfl
def Tri (p : Int) : Prop := p = -1 ∨ p = 0 ∨ p = 1
theorem Tri.lex {p q : Int} (h : Tri p) (h' : Tri q) : Tri (lex p q) := by unfold Q.lex; split <;> assumption
theorem lex_neg (p q : Int) : lex (-p) (-q) = -lex p q := by
 unfold lex
 by_cases h : p = 0
 ·rw [if_pos h, if_pos (by omega)]
 ·rw [if_neg h, if_neg (by omega)]
theorem lex_zero {p q : Int} : lex p q = 0 ↔ p = 0 ∧ q = 0 := by
 unfold lex
 split
 ·rename_i h; simp [h]
 ·rename_i h; simp [h]
theorem sgn_tri (a b : Int) : Tri (sgn a b) := by
 rcases sgn_cases a b with ⟨_, e⟩ | ⟨_, e⟩ | ⟨_, e⟩ <;> rw [e]
 ·exact .inl rfl
 ·exact .inr (.inr rfl)
 ·exact .inr (.inl rfl)
theorem sgn_neg (a b : Int) : sgn b a = -sgn a b := by
 rcases sgn_cases a b with ⟨h, e⟩ | ⟨h, e⟩ | ⟨h, e⟩ <;> rcases sgn_cases b a with ⟨h', e'⟩ | ⟨h', e'⟩ | ⟨h', e'⟩ <;> rw [e, e'] <;> omega
theorem sgn_zero {a b : Int} : sgn a b = 0 ↔ a = b := by
 rcases sgn_cases a b with ⟨h, e⟩ | ⟨h, e⟩ | ⟨h, e⟩ <;> rw [e] <;> omega
theorem sgn_fits (a b c : Int) : Fits (sgn a b) (sgn b c) (sgn a c) := by
 rcases sgn_cases a b with ⟨h, e⟩ | ⟨h, e⟩ | ⟨h, e⟩ <;> rcases sgn_cases b c with ⟨h', e'⟩ | ⟨h', e'⟩ | ⟨h', e'⟩ <;> rcases sgn_cases a c with ⟨k, f⟩ | ⟨k, f⟩ | ⟨k, f⟩ <;> rw [e, e', f] <;> constructor <;> intros <;> omega
theorem zero_tri : Tri 0 := .inr (.inl rfl)
theorem cmpL_tri : ∀ l m, Tri (cmpL l m)
 | [], [] => zero_tri
 | [], _ :: _ => .inl rfl
 | _ :: _, [] => .inr (.inr rfl)
 | x :: l, y :: m => by rw [cmpL]; exact (sgn_tri x y).lex (cmpL_tri l m)
theorem cmpL_neg : ∀ l m, cmpL m l = -cmpL l m
 | [], [] => rfl
 | [], _ :: _ => rfl
 | _ :: _, [] => rfl
 | x :: l, y :: m => by rw [cmpL, cmpL, cmpL_neg l m, sgn_neg x y, lex_neg]
theorem cmpL_zero : ∀ {l m}, cmpL l m = 0 ↔ l = m
 | [], [] => by simp [cmpL]
 | [], _ :: _ => by simp [cmpL]
 | _ :: _, [] => by simp [cmpL]
 | x :: l, y :: m => by rw [cmpL, lex_zero, sgn_zero, cmpL_zero]; simp
theorem cmpL_fits : ∀ l m k, Fits (cmpL l m) (cmpL m k) (cmpL l k)
 | [], [], k => by cases k <;> constructor <;> simp [cmpL]
 | [], _ :: _, [] => by constructor <;> simp [cmpL]
 | [], y :: m, z :: k => by
  have := cmpL_tri (y :: m) (z :: k)
  constructor
  ·intro h; simp [cmpL] at h
  ·intro _; rfl
  ·intro _ _; rfl
  ·intro h; simp [cmpL] at h
 | _ :: _, [], [] => by constructor <;> simp [cmpL]
 | _ :: _, [], _ :: _ => by constructor <;> simp [cmpL]
 | x :: l, y :: m, [] => by
  constructor
  ·intro _; rfl
  ·intro h; simp [cmpL] at h
  ·intro _ h; simp [cmpL] at h
  ·intro _ _; rfl
 | x :: l, y :: m, z :: k => by rw [cmpL, cmpL, cmpL]; exact (sgn_fits x y z).lex fun _ _ => cmpL_fits l m k
mutual
theorem cmpT_tri : ∀ x y, Tri (cmpT x y)
 | ⟨a, l, ts⟩, ⟨b, m, us⟩ => by rw [cmpT]; exact (sgn_tri a b).lex ((cmpL_tri l m).lex (cmpTs_tri ts us))
theorem cmpTs_tri : ∀ l m, Tri (cmpTs l m)
 | [], [] => by rw [cmpTs]; exact zero_tri
 | [], _ :: _ => by rw [cmpTs]; exact .inl rfl
 | _ :: _, [] => by rw [cmpTs]; exact .inr (.inr rfl)
 | x :: l, y :: m => by rw [cmpTs]; exact (cmpT_tri x y).lex (cmpTs_tri l m)
end
mutual
theorem cmpT_neg : ∀ x y, cmpT y x = -cmpT x y
 | ⟨a, l, ts⟩, ⟨b, m, us⟩ => by rw [cmpT, cmpT, sgn_neg a b, cmpL_neg l m, cmpTs_neg ts us, lex_neg, lex_neg]
theorem cmpTs_neg : ∀ l m, cmpTs m l = -cmpTs l m
 | [], [] => by rw [cmpTs]; rfl
 | [], _ :: _ => by rw [cmpTs, cmpTs]; rfl
 | _ :: _, [] => by rw [cmpTs, cmpTs]
 | x :: l, y :: m => by rw [cmpTs, cmpTs, cmpT_neg x y, cmpTs_neg l m, lex_neg]
end
mutual
theorem cmpT_zero : ∀ {x y}, cmpT x y = 0 ↔ x = y
 | ⟨a, l, ts⟩, ⟨b, m, us⟩ => by rw [cmpT, lex_zero, lex_zero, sgn_zero, cmpL_zero, cmpTs_zero]; simp
theorem cmpTs_zero : ∀ {l m}, cmpTs l m = 0 ↔ l = m
 | [], [] => by rw [cmpTs]; simp
 | [], _ :: _ => by rw [cmpTs]; simp
 | _ :: _, [] => by rw [cmpTs]; simp
 | x :: l, y :: m => by rw [cmpTs, lex_zero, cmpT_zero, cmpTs_zero]; simp
end
mutual
theorem cmpT_fits : ∀ x y z, Fits (cmpT x y) (cmpT y z) (cmpT x z)
 | ⟨a, l, ts⟩, ⟨b, m, us⟩, ⟨c, k, vs⟩ => by rw [cmpT, cmpT, cmpT]; exact (sgn_fits a b c).lex fun _ _ => (cmpL_fits l m k).lex fun _ _ => cmpTs_fits ts us vs
theorem cmpTs_fits : ∀ l m k, Fits (cmpTs l m) (cmpTs m k) (cmpTs l k)
 | [], [], k => by cases k <;> constructor <;> simp [cmpTs]
 | [], _ :: _, [] => by constructor <;> simp [cmpTs]
 | [], y :: m, z :: k => by
  constructor
  ·intro h; simp [cmpTs] at h
  ·intro _; simp [cmpTs]
  ·intro _ _; simp [cmpTs]
  ·intro h; simp [cmpTs] at h
 | _ :: _, [], [] => by constructor <;> simp [cmpTs]
 | _ :: _, [], _ :: _ => by constructor <;> simp [cmpTs]
 | x :: l, y :: m, [] => by
  constructor
  ·intro _; simp [cmpTs]
  ·intro h; simp [cmpTs] at h
  ·intro _ h; simp [cmpTs] at h
  ·intro _ _; simp [cmpTs]
 | x :: l, y :: m, z :: k => by rw [cmpTs, cmpTs, cmpTs]; exact (cmpT_fits x y z).lex fun _ _ => cmpTs_fits l m k
end
theorem cmpT_self (x : TT) : cmpT x x = 0 := cmpT_zero.2 rfl
/-- At most: a total order. -/
def leT (x y : TT) : Bool := decide (cmpT x y ≤ 0)
theorem leT_iff {x y : TT} : leT x y = true ↔ cmpT x y ≤ 0 := decide_eq_true_iff
theorem leT_trans (x y z : TT) (h1 : leT x y = true) (h2 : leT y z = true) : leT x z = true := by
 rw [leT_iff] at *
 have f := cmpT_fits x y z
 rcases cmpT_tri x y with a | a | a
 ·rcases cmpT_tri y z with b | b | b
  ·have := f.c a b; omega
  ·have := f.b b; omega
  ·omega
 ·have := f.a a; omega
 ·omega
theorem leT_total (x y : TT) : (leT x y || leT y x) = true := by
 rw [Bool.or_eq_true, leT_iff, leT_iff, cmpT_neg x y]
 omega
theorem leT_anti {x y : TT} (h1 : leT x y = true) (h2 : leT y x = true) : x = y := by
 rw [leT_iff] at h1 h2
 rw [cmpT_neg x y] at h2
 exact cmpT_zero.1 (by omega)
instance : DecidableEq TT := fun x y => if h : cmpT x y = 0 then isTrue (cmpT_zero.1 h) else isFalse fun e => h (cmpT_zero.2 e)
end Go.Proofs.Ytfkpimjiaijmgaa.Q
end
section
namespace Go.Proofs.Ytfkpimjiaijmgaa.Q
open Go.RowKit Go.Proofs.Ytfkpimjiaijmgaa.G Go.Proofs.YtfkpimjiaijmgaaW.PrintWords Go.Proofs.YtfkpimjiaijmgaaW.PrintLast Go.Proofs.YtfkpimjiaijmgaaW.PrintMore Go.Proofs.YtfkpimjiaijmgaaV
set_option linter.unusedVariables false
theorem tt_ind {P : TT → Prop} (h : ∀ a l ts, (∀ t ∈ ts, P t) → P ⟨a, l, ts⟩) : ∀ t, P t
 | ⟨a, l, ts⟩ => h a l ts fun t ht => tt_ind h t
termination_by t => SizeOf.sizeOf t
decreasing_by
 have := List.sizeOf_lt_of_mem ht
 simp_wf; omega
def addN (ns : List Int) (k : Int) : List Int := if k ∈ ns then ns else ns ++ [k]
def addT (is : List TT) (x : TT) : List TT := if x ∈ is then is else is ++ [x]
/-- A single node that does not stand in the list. -/
def lifts (ns : List Int) (x : TT) : Bool := x.f1.length == 1 && (x.f2.length == 0 && !decide (x.f1.headD 0 ∈ ns))
def liftS : List Int → List TT → List TT → List Int × List TT
 | ns, is, [] => (ns, is)
 | ns, is, x :: r => if lifts ns x = true then liftS (ns ++ [x.f1.headD 0]) is r else liftS ns (is ++ [x]) r
def dissS (p : TT → Bool) : List Int → List TT → List TT → List Int × List TT
 | ns, is, [] => (ns, is)
 | ns, is, x :: r => if p x = true then dissS p (x.f1.foldl addN ns) (x.f2.foldl addT is) r else dissS p ns (addT is x) r
def anyP (x : TT) : Bool := x.f0 == 1
def allP (x : TT) : Bool := x.f0 == ((x.f1.length + x.f2.length : Nat) : Int)
def sortN (ns : List Int) : List Int := ((List.range 10).map Int.ofNat).filter fun k => decide (k ∈ ns)
def sortT (ts : List TT) : List TT := ts.mergeSort leT
def finT (a : Int) (ns : List Int) : List TT → TT
 | [x] => if ns = [] then x else ⟨a, ns, [x]⟩
 | is => ⟨a, ns, is⟩
/-- What the second step makes of a level. -/
def mergT (a : Int) (ns : List Int) (is : List TT) : Int × List Int × List TT :=
 if a = 1 then (a, dissS anyP ns [] is) else if a = ((ns.length + is.length : Nat) : Int) then ((((dissS allP ns [] is).1.length + (dissS allP ns [] is).2.length : Nat) : Int), dissS allP ns [] is) else (a, ns, is)
/-- A level whose inner trusts are normal already. -/
def levT (a : Int) (l : List Int) (xs : List TT) : TT :=
 finT (mergT a (liftS l [] xs).1 (liftS l [] xs).2).1 (sortN (mergT a (liftS l [] xs).1 (liftS l [] xs).2).2.1) (sortT (mergT a (liftS l [] xs).1 (liftS l [] xs).2).2.2)
def normT : TT → TT
 | ⟨a, l, ts⟩ => levT a l (ts.attach.map fun x => normT x.1)
termination_by t => SizeOf.sizeOf t
decreasing_by
 have := List.sizeOf_lt_of_mem x.2
 simp_wf; omega
theorem normT_eq (a : Int) (l : List Int) (ts : List TT) : normT ⟨a, l, ts⟩ = levT a l (ts.map normT) := by
 rw [normT]
 congr 1
 exact List.attach_map_val (l := ts) (f := normT) ▸ by rw [List.attach_map_val]
structure Ok (ns : List Int) (is : List TT) : Prop where
 node : ∀ k ∈ ns, isNode k = true
 nd : ns.Nodup
 inner : ∀ x ∈ is, chkT x = 0
theorem ofV_zero : ∀ {l : List Int} (n : Nat), (∀ x ∈ l, isNode x = true) → ((ofV n l).2 = 0 ↔ l.Nodup ∧ ∀ x ∈ l, n.testBit x.toNat = false)
 | [], n, _ => by simp [ofV]
 | x :: l, n, h => by
  obtain ⟨m, rfl, hm⟩ := isNode_nat (h x (by simp))
  have ih := ofV_zero (l := l) (n ||| 2 ^ m) fun y hy => h y (by simp [hy])
  rw [ofV, h (m : Int) (by simp)]
  simp only [if_true, Int.toNat_natCast]
  cases hb : n.testBit m with
  | true =>
   simp only [if_true]
   constructor
   ·intro z; cases z
   ·rintro ⟨_, z⟩
    have := z (m : Int) (by simp)
    rw [Int.toNat_natCast, hb] at this; cases this
  | false =>
   simp only [Bool.false_eq_true, if_false]
   rw [ih, List.nodup_cons]
   have hbit : ∀ y : Int, (n ||| 2 ^ m).testBit y.toNat = (n.testBit y.toNat || decide (m = y.toNat)) := fun y => by rw [Nat.testBit_or, Nat.testBit_two_pow]
   constructor
   ·rintro ⟨h1, h2⟩
    refine ⟨⟨fun hin => ?_, h1⟩, fun y hy => ?_⟩
    ·have := h2 _ hin
     rw [hbit] at this; simp at this
    ·rcases List.mem_cons.1 hy with rfl | hy
     ·rw [Int.toNat_natCast]; exact hb
     ·have := h2 y hy
      rw [hbit] at this; simp at this; exact this.1
   ·rintro ⟨⟨h1, h2⟩, h3⟩
    refine ⟨h2, fun y hy => ?_⟩
    rw [hbit, h3 y (by simp [hy])]
    have : m ≠ y.toNat := fun e => by
     obtain ⟨q, rfl, _⟩ := isNode_nat (h y (by simp [hy]))
     rw [Int.toNat_natCast] at e
     subst e
     exact h1 hy
    simp [this]
theorem firstT_of {f : TT → Int} : ∀ {ts : List TT}, (∀ t ∈ ts, f t = 0) → firstT f ts = 0
 | [], _ => rfl
 | x :: ts, h => by
  unfold firstT
  rw [List.foldr_cons, if_pos (h x (by simp))]
  exact firstT_of fun t ht => h t (by simp [ht])
theorem chk_iff {a : Int} {ns : List Int} {is : List TT} : chkT ⟨a, ns, is⟩ = 0 ↔ 1 ≤ a ∧ a ≤ ((ns.length + is.length : Nat) : Int) ∧ Ok ns is := by
 constructor
 ·intro h
  obtain ⟨h1, h2, h3, h4, h5⟩ := chk_parts h
  exact ⟨h1, h2, h3, ((ofV_zero 0 h3).1 h4).1, h5⟩
 ·rintro ⟨h1, h2, h3, h4, h5⟩
  have hn : (ns.any fun x => !isNode x) = false := by
   cases ha : (ns.any fun x => !isNode x) with
   | false => rfl
   | true => obtain ⟨x, hx, hh⟩ := List.any_eq_true.1 ha; rw [h3 x hx] at hh; cases hh
  rw [chkT_eq, if_neg (by omega), hn, if_neg (by decide), if_pos ((ofV_zero 0 h3).2 ⟨h4, fun x _ => Nat.zero_testBit _⟩)]
  exact firstT_of h5
theorem Ok.nil : Ok [] [] := ⟨by simp, by simp, by simp⟩
theorem lifts_form {ns : List Int} {x : TT} (h : lifts ns x = true) : ∃ k, x.f1 = [k] ∧ x.f2 = [] ∧ k ∉ ns ∧ x.f1.headD 0 = k := by
 unfold lifts at h
 simp only [Bool.and_eq_true, beq_iff_eq, Bool.not_eq_true', decide_eq_false_iff_not] at h
 obtain ⟨h1, h2, h3⟩ := h
 obtain ⟨k, hk⟩ := List.length_eq_one_iff.1 h1
 refine ⟨k, hk, List.length_eq_zero_iff.1 h2, ?_, by rw [hk]; rfl⟩
 rw [hk] at h3; exact h3
theorem lift_form {ns : List Int} {x : TT} (h : lifts ns x = true) (hc : chkT x = 0) : ∃ k, x = ⟨1, [k], []⟩ ∧ k ∉ ns ∧ isNode k = true ∧ x.f1.headD 0 = k := by
 obtain ⟨k, h1, h2, h3, h4⟩ := lifts_form h
 obtain ⟨a, l, ts⟩ := x
 simp only at h1 h2
 subst h1; subst h2
 obtain ⟨c1, c2, c3⟩ := chk_iff.1 hc
 simp at c2
 have : a = 1 := by omega
 subst this
 exact ⟨k, rfl, h3, c3.node k (by simp), rfl⟩
theorem liftS_ok : ∀ {xs ns is}, Ok ns is → (∀ x ∈ xs, chkT x = 0) → Ok (liftS ns is xs).1 (liftS ns is xs).2
 | [], _, _, h, _ => h
 | x :: r, ns, is, h, hx => by
  unfold liftS
  have hr : ∀ y ∈ r, chkT y = 0 := fun y hy => hx y (by simp [hy])
  split
  ·rename_i hl
   obtain ⟨k, _, hk, hn, e⟩ := lift_form hl (hx x (by simp))
   rw [e]
   refine liftS_ok ⟨fun y hy => ?_, ?_, h.inner⟩ hr
   ·rcases List.mem_append.1 hy with z | z
    ·exact h.node y z
    ·rw [List.mem_singleton.1 z]; exact hn
   ·rw [List.nodup_append]
    exact ⟨h.nd, by simp, fun a ha b hb => by rw [List.mem_singleton.1 hb]; rintro rfl; exact hk ha⟩
  ·refine liftS_ok ⟨h.node, h.nd, fun y hy => ?_⟩ hr
   rcases List.mem_append.1 hy with z | z
   ·exact h.inner y z
   ·rw [List.mem_singleton.1 z]; exact hx x (by simp)
theorem liftS_len : ∀ (xs : List TT) (ns : List Int) (is : List TT), (liftS ns is xs).1.length + (liftS ns is xs).2.length = ns.length + is.length + xs.length
 | [], _, _ => by simp [liftS]
 | x :: r, ns, is => by
  unfold liftS
  split
  ·rw [liftS_len r]; simp; omega
  ·rw [liftS_len r]; simp; omega
def cnt (s : Int) (ns : List Int) (is : List TT) : Nat := (ns.filter (hasI s)).length + (is.filter fun x => satT x s).length
theorem sat_cnt (a : Int) (ns : List Int) (is : List TT) (s : Int) : satT ⟨a, ns, is⟩ s = (isSet s && decide (a ≤ (cnt s ns is : Nat))) := satT_eq a ns is s
theorem sat_one {s : Int} (hs : isSet s = true) (k : Int) : satT ⟨1, [k], []⟩ s = hasI s k := by
 rw [sat_cnt, hs, Bool.true_and]
 unfold cnt
 cases h : hasI s k <;> simp [h]
theorem liftS_cnt {s : Int} (hs : isSet s = true) : ∀ {xs ns is}, (∀ x ∈ xs, chkT x = 0) → cnt s (liftS ns is xs).1 (liftS ns is xs).2 = cnt s ns is + (xs.filter fun x => satT x s).length
 | [], _, _, _ => by simp [liftS]
 | x :: r, ns, is, hx => by
  have hr : ∀ y ∈ r, chkT y = 0 := fun y hy => hx y (by simp [hy])
  unfold liftS
  split
  ·rename_i hl
   obtain ⟨k, rfl, hk, hn, e⟩ := lift_form hl (hx x (by simp))
   rw [liftS_cnt hs hr, e, List.filter_cons, sat_one hs]
   unfold cnt
   rw [List.filter_append]
   cases h : hasI s k <;> simp [h] <;> omega
  ·rw [liftS_cnt hs hr, List.filter_cons]
   unfold cnt
   rw [List.filter_append]
   cases h : satT x s <;> simp [h] <;> omega
theorem mem_addN {ns : List Int} {k y : Int} : y ∈ addN ns k ↔ y ∈ ns ∨ y = k := by
 unfold addN
 split
 ·rename_i h
  constructor
  ·exact .inl
  ·rintro (z | rfl)
   ·exact z
   ·exact h
 ·simp
theorem mem_addT {is : List TT} {x y : TT} : y ∈ addT is x ↔ y ∈ is ∨ y = x := by
 unfold addT
 split
 ·rename_i h
  constructor
  ·exact .inl
  ·rintro (z | rfl)
   ·exact z
   ·exact h
 ·simp
theorem mem_foldN : ∀ {l ns : List Int} {y : Int}, y ∈ l.foldl addN ns ↔ y ∈ ns ∨ y ∈ l
 | [], ns, y => by simp
 | k :: l, ns, y => by rw [List.foldl_cons, mem_foldN, mem_addN]; simp [or_assoc]
theorem mem_foldT : ∀ {l is : List TT} {y : TT}, y ∈ l.foldl addT is ↔ y ∈ is ∨ y ∈ l
 | [], ns, y => by simp
 | k :: l, ns, y => by rw [List.foldl_cons, mem_foldT, mem_addT]; simp [or_assoc]
theorem addN_nd {ns : List Int} {k : Int} (h : ns.Nodup) : (addN ns k).Nodup := by
 unfold addN
 split
 ·exact h
 ·rename_i hk
  rw [List.nodup_append]
  exact ⟨h, by simp, fun a ha b hb => by rw [List.mem_singleton.1 hb]; rintro rfl; exact hk ha⟩
theorem foldN_nd : ∀ {l ns : List Int}, ns.Nodup → (l.foldl addN ns).Nodup
 | [], _, h => h
 | k :: l, _, h => foldN_nd (l := l) (addN_nd h)
theorem mem_diss1 {p : TT → Bool} : ∀ {xs ns is} {k : Int}, k ∈ (dissS p ns is xs).1 ↔ k ∈ ns ∨ ∃ x ∈ xs, p x = true ∧ k ∈ x.f1
 | [], ns, is, k => by simp [dissS]
 | x :: r, ns, is, k => by
  unfold dissS
  split
  ·rename_i h
   rw [mem_diss1, mem_foldN]; simp [h, or_assoc]
  ·rename_i h
   rw [mem_diss1]; simp [h]
theorem mem_diss2 {p : TT → Bool} : ∀ {xs ns is} {y : TT}, y ∈ (dissS p ns is xs).2 ↔ y ∈ is ∨ ∃ x ∈ xs, (p x = true ∧ y ∈ x.f2) ∨ (p x = false ∧ y = x)
 | [], ns, is, y => by simp [dissS]
 | x :: r, ns, is, y => by
  unfold dissS
  split
  ·rename_i h
   rw [mem_diss2, mem_foldT]; simp [h, or_assoc]
  ·rename_i h
   have h' : p x = false := by simpa using h
   rw [mem_diss2, mem_addT]; simp [h', or_assoc]
theorem diss_nd {p : TT → Bool} : ∀ {xs ns is}, ns.Nodup → (dissS p ns is xs).1.Nodup
 | [], _, _, h => h
 | x :: r, ns, is, h => by
  unfold dissS
  split
  ·exact diss_nd (foldN_nd h)
  ·exact diss_nd h
theorem chk_sub {x : TT} (h : chkT x = 0) : Ok x.f1 x.f2 ∧ 1 ≤ x.f0 ∧ x.f0 ≤ ((x.f1.length + x.f2.length : Nat) : Int) := by
 obtain ⟨a, l, ts⟩ := x
 obtain ⟨h1, h2, h3⟩ := chk_iff.1 h
 exact ⟨h3, h1, h2⟩
theorem diss_ok {p : TT → Bool} {xs ns is} (h : Ok ns is) (hx : ∀ x ∈ xs, chkT x = 0) : Ok (dissS p ns is xs).1 (dissS p ns is xs).2 := by
 refine ⟨fun k hk => ?_, diss_nd h.nd, fun y hy => ?_⟩
 ·rcases mem_diss1.1 hk with z | ⟨x, hxs, _, hkx⟩
  ·exact h.node k z
  ·exact (chk_sub (hx x hxs)).1.node k hkx
 ·rcases mem_diss2.1 hy with z | ⟨x, hxs, ⟨_, hyx⟩ | ⟨_, rfl⟩⟩
  ·exact h.inner y z
  ·exact (chk_sub (hx x hxs)).1.inner y hyx
  ·exact hx y hxs
def someS (s : Int) (ns : List Int) (is : List TT) : Prop := (∃ k ∈ ns, hasI s k = true) ∨ ∃ x ∈ is, satT x s = true
def allS (s : Int) (ns : List Int) (is : List TT) : Prop := (∀ k ∈ ns, hasI s k = true) ∧ ∀ x ∈ is, satT x s = true
theorem cnt_some {s : Int} {ns : List Int} {is : List TT} : (1 : Int) ≤ (cnt s ns is : Nat) ↔ someS s ns is := by
 unfold cnt someS
 constructor
 ·intro h
  have : 0 < (ns.filter (hasI s)).length ∨ 0 < (is.filter fun x => satT x s).length := by omega
  rcases this with h | h
  ·obtain ⟨k, hk⟩ := List.length_pos_iff_exists_mem.1 h
   exact .inl ⟨k, (List.mem_filter.1 hk).1, (List.mem_filter.1 hk).2⟩
  ·obtain ⟨k, hk⟩ := List.length_pos_iff_exists_mem.1 h
   exact .inr ⟨k, (List.mem_filter.1 hk).1, (List.mem_filter.1 hk).2⟩
 ·rintro (⟨k, hk, h⟩ | ⟨x, hx, h⟩)
  ·have := List.length_pos_of_mem (List.mem_filter.2 ⟨hk, h⟩); omega
  ·have := List.length_pos_of_mem (List.mem_filter (p := fun x => satT x s) |>.2 ⟨hx, h⟩); omega
theorem cnt_all {s : Int} {ns : List Int} {is : List TT} : ((ns.length + is.length : Nat) : Int) ≤ (cnt s ns is : Nat) ↔ allS s ns is := by
 unfold cnt allS
 have h1 := List.length_filter_le (hasI s) ns
 have h2 := List.length_filter_le (fun x => satT x s) is
 constructor
 ·intro h
  have e1 : (ns.filter (hasI s)).length = ns.length := by omega
  have e2 : (is.filter fun x => satT x s).length = is.length := by omega
  exact ⟨List.length_filter_eq_length_iff.1 e1, List.length_filter_eq_length_iff.1 e2⟩
 ·rintro ⟨e1, e2⟩
  have := List.length_filter_eq_length_iff.2 e1
  have := List.length_filter_eq_length_iff (p := fun x => satT x s) |>.2 e2
  omega
theorem sat_some {s : Int} (hs : isSet s = true) {x : TT} (h : anyP x = true) : satT x s = true ↔ someS s x.f1 x.f2 := by
 obtain ⟨a, l, ts⟩ := x
 have : a = 1 := by simpa [anyP] using h
 subst this
 rw [sat_cnt, hs, Bool.true_and, decide_eq_true_eq]
 exact cnt_some
theorem sat_all {s : Int} (hs : isSet s = true) {x : TT} (h : allP x = true) : satT x s = true ↔ allS s x.f1 x.f2 := by
 obtain ⟨a, l, ts⟩ := x
 have : a = ((l.length + ts.length : Nat) : Int) := by simpa [allP] using h
 subst this
 rw [sat_cnt, hs, Bool.true_and, decide_eq_true_eq]
 exact cnt_all
theorem diss_some {s : Int} (hs : isSet s = true) {xs : List TT} {ns : List Int} : someS s (dissS anyP ns [] xs).1 (dissS anyP ns [] xs).2 ↔ someS s ns xs := by
 unfold someS
 constructor
 ·rintro (⟨k, hk, h⟩ | ⟨y, hy, h⟩)
  ·rcases mem_diss1.1 hk with z | ⟨x, hx, hp, hkx⟩
   ·exact .inl ⟨k, z, h⟩
   ·exact .inr ⟨x, hx, (sat_some hs hp).2 (.inl ⟨k, hkx, h⟩)⟩
  ·rcases mem_diss2.1 hy with z | ⟨x, hx, ⟨hp, hyx⟩ | ⟨_, rfl⟩⟩
   ·cases z
   ·exact .inr ⟨x, hx, (sat_some hs hp).2 (.inr ⟨y, hyx, h⟩)⟩
   ·exact .inr ⟨y, hx, h⟩
 ·rintro (⟨k, hk, h⟩ | ⟨x, hx, h⟩)
  ·exact .inl ⟨k, mem_diss1.2 (.inl hk), h⟩
  ·cases hp : anyP x with
   | true =>
    rcases (sat_some hs hp).1 h with ⟨k, hk, hh⟩ | ⟨y, hy, hh⟩
    ·exact .inl ⟨k, mem_diss1.2 (.inr ⟨x, hx, hp, hk⟩), hh⟩
    ·exact .inr ⟨y, mem_diss2.2 (.inr ⟨x, hx, .inl ⟨hp, hy⟩⟩), hh⟩
   | false => exact .inr ⟨x, mem_diss2.2 (.inr ⟨x, hx, .inr ⟨hp, rfl⟩⟩), h⟩
theorem diss_all {s : Int} (hs : isSet s = true) {xs : List TT} {ns : List Int} : allS s (dissS allP ns [] xs).1 (dissS allP ns [] xs).2 ↔ allS s ns xs := by
 unfold allS
 constructor
 ·rintro ⟨h1, h2⟩
  refine ⟨fun k hk => h1 k (mem_diss1.2 (.inl hk)), fun x hx => ?_⟩
  cases hp : allP x with
  | true => exact (sat_all hs hp).2 ⟨fun k hk => h1 k (mem_diss1.2 (.inr ⟨x, hx, hp, hk⟩)), fun y hy => h2 y (mem_diss2.2 (.inr ⟨x, hx, .inl ⟨hp, hy⟩⟩))⟩
  | false => exact h2 x (mem_diss2.2 (.inr ⟨x, hx, .inr ⟨hp, rfl⟩⟩))
 ·rintro ⟨h1, h2⟩
  refine ⟨fun k hk => ?_, fun y hy => ?_⟩
  ·rcases mem_diss1.1 hk with z | ⟨x, hx, hp, hkx⟩
   ·exact h1 k z
   ·exact ((sat_all hs hp).1 (h2 x hx)).1 k hkx
  ·rcases mem_diss2.1 hy with z | ⟨x, hx, ⟨hp, hyx⟩ | ⟨_, rfl⟩⟩
   ·cases z
   ·exact ((sat_all hs hp).1 (h2 x hx)).2 y hyx
   ·exact h2 y hx
theorem mem_sortN {ns : List Int} {k : Int} : k ∈ sortN ns ↔ k ∈ ns ∧ isNode k = true := by
 unfold sortN
 rw [List.mem_filter, decide_eq_true_eq, and_comm]
 refine and_congr_right fun _ => ?_
 rw [List.mem_map]
 constructor
 ·rintro ⟨m, hm, rfl⟩
  have := List.mem_range.1 hm
  simp [isNode]; omega
 ·intro h
  obtain ⟨m, rfl, hm⟩ := isNode_nat h
  exact ⟨m, List.mem_range.2 hm, rfl⟩
theorem sortN_nd (ns : List Int) : (sortN ns).Nodup := by
 unfold sortN
 refine List.Pairwise.filter _ ?_
 exact List.Pairwise.map (R := fun a b : Nat => a ≠ b) _ (fun a b h e => h (Int.ofNat.inj e)) List.nodup_range
theorem sortN_perm {ns : List Int} (h1 : ∀ k ∈ ns, isNode k = true) (h2 : ns.Nodup) : (sortN ns).Perm ns :=
 (List.perm_ext_iff_of_nodup (sortN_nd ns) h2).2 fun k => by rw [mem_sortN]; exact ⟨fun h => h.1, fun h => ⟨h, h1 k h⟩⟩
theorem sortT_perm (ts : List TT) : (sortT ts).Perm ts := List.mergeSort_perm _ _
theorem sort_ok {ns is} (h : Ok ns is) : Ok (sortN ns) (sortT is) :=
 ⟨fun k hk => (mem_sortN.1 hk).2, sortN_nd ns, fun x hx => h.inner x ((sortT_perm is).mem_iff.1 hx)⟩
theorem sort_cnt {s : Int} {ns is} (h : Ok ns is) : cnt s (sortN ns) (sortT is) = cnt s ns is := by
 unfold cnt
 rw [((sortN_perm h.node h.nd).filter _).length_eq, ((sortT_perm is).filter _).length_eq]
theorem sort_len {ns is} (h : Ok ns is) : (sortN ns).length + (sortT is).length = ns.length + is.length := by
 rw [(sortN_perm h.node h.nd).length_eq, (sortT_perm is).length_eq]
theorem fin_form (a : Int) (ns : List Int) (is : List TT) : (finT a ns is = ⟨a, ns, is⟩) ∨ (ns = [] ∧ ∃ x, is = [x] ∧ finT a ns is = x) := by
 unfold finT
 split
 ·rename_i x
  by_cases h : ns = []
  ·rw [if_pos h]; exact .inr ⟨h, x, rfl, rfl⟩
  ·rw [if_neg h]; exact .inl rfl
 ·exact .inl rfl
theorem merg_ok {a : Int} {ns is} (h : Ok ns is) : Ok (mergT a ns is).2.1 (mergT a ns is).2.2 := by
 unfold mergT
 split
 ·exact diss_ok ⟨h.node, h.nd, by simp⟩ h.inner
 ·split
  ·exact diss_ok ⟨h.node, h.nd, by simp⟩ h.inner
  ·exact h
theorem diss_pos {p : TT → Bool} {ns is} (h : Ok ns is) (h0 : 1 ≤ ns.length + is.length) : 1 ≤ (dissS p ns [] is).1.length + (dissS p ns [] is).2.length := by
 have key : (∃ k, k ∈ (dissS p ns [] is).1) ∨ ∃ y, y ∈ (dissS p ns [] is).2 := by
  rcases Nat.lt_or_ge 0 ns.length with hn | hn
  ·obtain ⟨k, hk⟩ := List.length_pos_iff_exists_mem.1 hn
   exact .inl ⟨k, mem_diss1.2 (.inl hk)⟩
  ·obtain ⟨x, hx⟩ := List.length_pos_iff_exists_mem.1 (show 0 < is.length by omega)
   cases hp : p x with
   | true =>
    have hc := chk_sub (h.inner x hx)
    rcases Nat.lt_or_ge 0 x.f1.length with hl | hl
    ·obtain ⟨k, hk⟩ := List.length_pos_iff_exists_mem.1 hl
     exact .inl ⟨k, mem_diss1.2 (.inr ⟨x, hx, hp, hk⟩)⟩
    ·obtain ⟨y, hy⟩ := List.length_pos_iff_exists_mem.1 (show 0 < x.f2.length by have := hc.2; omega)
     exact .inr ⟨y, mem_diss2.2 (.inr ⟨x, hx, .inl ⟨hp, hy⟩⟩)⟩
   | false => exact .inr ⟨x, mem_diss2.2 (.inr ⟨x, hx, .inr ⟨hp, rfl⟩⟩)⟩
 rcases key with ⟨k, hk⟩ | ⟨y, hy⟩
 ·have := List.length_pos_of_mem hk; omega
 ·have := List.length_pos_of_mem hy; omega
theorem merg_chk {a : Int} {ns is} (h : chkT ⟨a, ns, is⟩ = 0) : chkT ⟨(mergT a ns is).1, (mergT a ns is).2.1, (mergT a ns is).2.2⟩ = 0 := by
 obtain ⟨h1, h2, h3⟩ := chk_iff.1 h
 have ho := merg_ok (a := a) h3
 refine chk_iff.2 ⟨?_, ?_, ho⟩
 ·unfold mergT
  split
  ·exact h1
  ·split
   ·have := diss_pos (p := allP) h3 (by omega)
    show (1 : Int) ≤ _
    omega
   ·exact h1
 ·unfold mergT
  split
  ·have := diss_pos (p := anyP) h3 (by omega)
   show a ≤ (((dissS anyP ns [] is).1.length + (dissS anyP ns [] is).2.length : Nat) : Int)
   omega
  ·split
   ·exact Int.le_refl _
   ·exact h2
theorem merg_means {a : Int} {ns is} {s : Int} (hs : isSet s = true) : satT ⟨(mergT a ns is).1, (mergT a ns is).2.1, (mergT a ns is).2.2⟩ s = satT ⟨a, ns, is⟩ s := by
 rw [sat_cnt, sat_cnt, hs, Bool.true_and, Bool.true_and]
 unfold mergT
 split
 ·rename_i h
  subst h
  exact decide_eq_decide.2 (cnt_some.trans ((diss_some hs).trans cnt_some.symm))
 ·split
  ·rename_i h
   rw [h]
   exact decide_eq_decide.2 (cnt_all.trans ((diss_all hs).trans cnt_all.symm))
  ·rfl
theorem lift_chk {a : Int} {l : List Int} {xs : List TT} (h : chkT ⟨a, l, xs⟩ = 0) : chkT ⟨a, (liftS l [] xs).1, (liftS l [] xs).2⟩ = 0 := by
 obtain ⟨h1, h2, h3⟩ := chk_iff.1 h
 refine chk_iff.2 ⟨h1, ?_, liftS_ok ⟨h3.node, h3.nd, by simp⟩ h3.inner⟩
 have := liftS_len xs l []
 simp only [List.length_nil, Nat.add_zero] at this
 omega
theorem lift_means {a : Int} {l : List Int} {xs : List TT} (h : chkT ⟨a, l, xs⟩ = 0) {s : Int} (hs : isSet s = true) : satT ⟨a, (liftS l [] xs).1, (liftS l [] xs).2⟩ s = satT ⟨a, l, xs⟩ s := by
 obtain ⟨_, _, h3⟩ := chk_iff.1 h
 have e : cnt s l [] + (xs.filter fun x => satT x s).length = cnt s l xs := by unfold cnt; simp
 rw [sat_cnt, sat_cnt, liftS_cnt hs h3.inner, e]
theorem fin_chk {a : Int} {ns is} (h : chkT ⟨a, ns, is⟩ = 0) : chkT (finT a ns is) = 0 := by
 rcases fin_form a ns is with e | ⟨_, x, hx, e⟩
 ·rw [e]; exact h
 ·rw [e]; exact (chk_iff.1 h).2.2.inner x (by rw [hx]; simp)
theorem fin_means {a : Int} {ns is} (h : chkT ⟨a, ns, is⟩ = 0) {s : Int} (hs : isSet s = true) : satT (finT a ns is) s = satT ⟨a, ns, is⟩ s := by
 rcases fin_form a ns is with e | ⟨hn, x, hx, e⟩
 ·rw [e]
 ·obtain ⟨h1, h2, _⟩ := chk_iff.1 h
  subst hn; subst hx
  simp at h2
  have : a = 1 := by omega
  subst this
  rw [e, sat_cnt, hs, Bool.true_and]
  unfold cnt
  cases hh : satT x s <;> simp [hh]
theorem sort_chk {a : Int} {ns is} (h : chkT ⟨a, ns, is⟩ = 0) : chkT ⟨a, sortN ns, sortT is⟩ = 0 := by
 obtain ⟨h1, h2, h3⟩ := chk_iff.1 h
 exact chk_iff.2 ⟨h1, by rw [sort_len h3]; exact h2, sort_ok h3⟩
theorem sort_means {a : Int} {ns is} (h : chkT ⟨a, ns, is⟩ = 0) (s : Int) : satT ⟨a, sortN ns, sortT is⟩ s = satT ⟨a, ns, is⟩ s := by
 obtain ⟨_, _, h3⟩ := chk_iff.1 h
 rw [sat_cnt, sat_cnt, sort_cnt h3]
theorem lev_chk {a : Int} {l : List Int} {xs : List TT} (h : chkT ⟨a, l, xs⟩ = 0) : chkT (levT a l xs) = 0 :=
 fin_chk (sort_chk (merg_chk (lift_chk h)))
theorem lev_means {a : Int} {l : List Int} {xs : List TT} (h : chkT ⟨a, l, xs⟩ = 0) {s : Int} (hs : isSet s = true) : satT (levT a l xs) s = satT ⟨a, l, xs⟩ s := by
 have h1 := lift_chk h
 have h2 := merg_chk h1
 exact (fin_means (sort_chk h2) hs).trans ((sort_means h2 s).trans ((merg_means hs).trans (lift_means h hs)))
theorem norm_both : ∀ t : TT, chkT t = 0 → chkT (normT t) = 0 ∧ ∀ s, isSet s = true → satT (normT t) s = satT t s := tt_ind fun a l ts ih h => by
 obtain ⟨h1, h2, h3⟩ := chk_iff.1 h
 have hk : ∀ x ∈ ts.map normT, chkT x = 0 := fun x hx => by
  obtain ⟨t, ht, rfl⟩ := List.mem_map.1 hx
  exact (ih t ht (h3.inner t ht)).1
 have hc : chkT ⟨a, l, ts.map normT⟩ = 0 := chk_iff.2 ⟨h1, by rw [List.length_map]; exact h2, h3.node, h3.nd, hk⟩
 rw [normT_eq]
 refine ⟨lev_chk hc, fun s hs => ?_⟩
 rw [lev_means hc hs, sat_cnt, sat_cnt]
 unfold cnt
 have e : ((ts.map normT).filter fun x => satT x s).length = (ts.filter fun x => satT x s).length := by
  rw [← List.countP_eq_length_filter, ← List.countP_eq_length_filter, List.countP_map]
  exact List.countP_congr fun t ht => by show satT (normT t) s = true ↔ _; rw [(ih t ht (h3.inner t ht)).2 s hs]
 rw [e]
def sumS (ts : List TT) : Nat := ts.foldr (fun x r => sizeT x + r) 0
theorem size_sum (a : Int) (l : List Int) (ts : List TT) : sizeT ⟨a, l, ts⟩ = l.length + ts.length + sumS ts := sizeT_eq a l ts
theorem sum_cons (x : TT) (ts : List TT) : sumS (x :: ts) = sizeT x + sumS ts := rfl
theorem sum_app : ∀ (us ts : List TT), sumS (us ++ ts) = sumS us + sumS ts
 | [], ts => by simp [sumS]
 | x :: us, ts => by rw [List.cons_append, sum_cons, sum_cons, sum_app us ts]; omega
theorem sum_perm {us ts : List TT} (h : us.Perm ts) : sumS us = sumS ts := by
 induction h with
 | nil => rfl
 | cons x _ ih => rw [sum_cons, sum_cons, ih]
 | swap x y l => rw [sum_cons, sum_cons, sum_cons, sum_cons]; omega
 | trans _ _ h1 h2 => rw [h1, h2]
theorem size_sub (x : TT) : sizeT x = x.f1.length + x.f2.length + sumS x.f2 := by
 obtain ⟨a, l, ts⟩ := x
 exact size_sum a l ts
theorem liftS_size : ∀ (xs : List TT) (ns : List Int) (is : List TT), (liftS ns is xs).1.length + (liftS ns is xs).2.length + sumS (liftS ns is xs).2 ≤ ns.length + is.length + sumS is + xs.length + sumS xs
 | [], _, _ => by simp [liftS, sumS]
 | x :: r, ns, is => by
  unfold liftS
  split
  ·have := liftS_size r (ns ++ [x.f1.headD 0]) is
   rw [sum_cons]; simp at this ⊢; omega
  ·have := liftS_size r ns (is ++ [x])
   rw [sum_app, sum_cons] at this
   have z : sumS [] = 0 := rfl
   rw [sum_cons]; simp at this ⊢; omega
theorem addN_len (ns : List Int) (k : Int) : (addN ns k).length ≤ ns.length + 1 := by
 unfold addN
 split <;> simp
theorem foldN_len : ∀ (l ns : List Int), (l.foldl addN ns).length ≤ ns.length + l.length
 | [], _ => by simp
 | k :: l, ns => by
  have := foldN_len l (addN ns k)
  have := addN_len ns k
  simp; omega
theorem addT_len (is : List TT) (x : TT) : (addT is x).length + sumS (addT is x) ≤ is.length + sumS is + 1 + sizeT x := by
 unfold addT
 split
 ·omega
 ·rw [sum_app, sum_cons]
  have z : sumS [] = 0 := rfl
  simp; omega
theorem foldT_len : ∀ (l is : List TT), (l.foldl addT is).length + sumS (l.foldl addT is) ≤ is.length + sumS is + l.length + sumS l
 | [], _ => by simp [sumS]
 | k :: l, is => by
  have := foldT_len l (addT is k)
  have := addT_len is k
  rw [sum_cons]; simp; omega
theorem diss_size {p : TT → Bool} : ∀ (xs : List TT) (ns : List Int) (is : List TT), (dissS p ns is xs).1.length + (dissS p ns is xs).2.length + sumS (dissS p ns is xs).2 ≤ ns.length + is.length + sumS is + xs.length + sumS xs
 | [], _, _ => by simp [dissS, sumS]
 | x :: r, ns, is => by
  unfold dissS
  split
  ·have := diss_size (p := p) r (x.f1.foldl addN ns) (x.f2.foldl addT is)
   have := foldN_len x.f1 ns
   have := foldT_len x.f2 is
   have := size_sub x
   rw [sum_cons]; simp; omega
  ·have := diss_size (p := p) r ns (addT is x)
   have := addT_len is x
   rw [sum_cons]; simp; omega
theorem merg_size (a : Int) (ns : List Int) (is : List TT) : (mergT a ns is).2.1.length + (mergT a ns is).2.2.length + sumS (mergT a ns is).2.2 ≤ ns.length + is.length + sumS is := by
 have z : sumS [] = 0 := rfl
 unfold mergT
 split
 ·have := diss_size (p := anyP) is ns []; simp at this ⊢; omega
 ·split
  ·have := diss_size (p := allP) is ns []; simp at this ⊢; omega
  ·exact Nat.le_refl _
theorem lev_size {a : Int} {l : List Int} {xs : List TT} (h : chkT ⟨a, l, xs⟩ = 0) : sizeT (levT a l xs) ≤ l.length + xs.length + sumS xs := by
 have h2 := (chk_iff.1 (merg_chk (lift_chk h))).2.2
 have e1 := liftS_size xs l []
 have e2 := merg_size a (liftS l [] xs).1 (liftS l [] xs).2
 have z : sumS [] = 0 := rfl
 simp only [List.length_nil] at e1
 have e3 := sort_len h2
 have e4 := sum_perm (sortT_perm (mergT a (liftS l [] xs).1 (liftS l [] xs).2).2.2)
 unfold levT
 rcases fin_form (mergT a (liftS l [] xs).1 (liftS l [] xs).2).1 (sortN (mergT a (liftS l [] xs).1 (liftS l [] xs).2).2.1) (sortT (mergT a (liftS l [] xs).1 (liftS l [] xs).2).2.2) with e | ⟨_, x, hx, e⟩
 ·rw [e, size_sum]; omega
 ·rw [e]
  rw [hx, sum_cons] at e4
  omega
theorem norm_size : ∀ t : TT, chkT t = 0 → sizeT (normT t) ≤ sizeT t := tt_ind fun a l ts ih h => by
 obtain ⟨h1, h2, h3⟩ := chk_iff.1 h
 have hk : ∀ x ∈ ts.map normT, chkT x = 0 := fun x hx => by
  obtain ⟨t, ht, rfl⟩ := List.mem_map.1 hx
  exact (norm_both t (h3.inner t ht)).1
 have hc : chkT ⟨a, l, ts.map normT⟩ = 0 := chk_iff.2 ⟨h1, by rw [List.length_map]; exact h2, h3.node, h3.nd, hk⟩
 rw [normT_eq, size_sum]
 refine Nat.le_trans (lev_size hc) ?_
 rw [List.length_map]
 have hs : ∀ us : List TT, (∀ t ∈ us, sizeT (normT t) ≤ sizeT t) → sumS (us.map normT) ≤ sumS us := fun us => by
  induction us with
  | nil => intro _; exact Nat.le_refl _
  | cons x us ihu =>
   intro hu
   have := ihu fun t ht => hu t (by simp [ht])
   have := hu x (by simp)
   rw [List.map_cons, sum_cons, sum_cons]; omega
 have := hs ts fun t ht => ih t ht (h3.inner t ht)
 omega
theorem depth_le {a : Int} {l : List Int} {ts : List TT} {d : Nat} : depthT ⟨a, l, ts⟩ ≤ d + 1 ↔ ∀ t ∈ ts, depthT t ≤ d := by
 rw [depthT_eq]
 constructor
 ·intro h t ht
  have : ∀ us : List TT, t ∈ us → depthT t ≤ us.foldr (fun x r => max (depthT x) r) 0 := fun us => by
   induction us with
   | nil => intro h; cases h
   | cons x us ihu =>
    intro hu
    rw [List.foldr_cons]
    rcases List.mem_cons.1 hu with rfl | hu
    ·exact Nat.le_max_left _ _
    ·exact Nat.le_trans (ihu hu) (Nat.le_max_right _ _)
  have := this ts ht
  omega
 ·intro h
  have := fold_max (ts := ts) (f := depthT) (d := d) h
  omega
theorem depth_pos (t : TT) : 1 ≤ depthT t := by
 obtain ⟨a, l, ts⟩ := t
 rw [depthT_eq]; omega
theorem lev_depth {a : Int} {l : List Int} {xs : List TT} {d : Nat} (hx : ∀ x ∈ xs, depthT x ≤ d) : depthT (levT a l xs) ≤ d + 1 := by
 have h1 : ∀ (us : List TT) (ns : List Int) (is : List TT), (∀ x ∈ us, depthT x ≤ d) → (∀ x ∈ is, depthT x ≤ d) → ∀ y ∈ (liftS ns is us).2, depthT y ≤ d := fun us => by
  induction us with
  | nil => intro ns is _ h; exact h
  | cons x us ih =>
   intro ns is hu hi
   unfold liftS
   split
   ·exact ih _ _ (fun y hy => hu y (by simp [hy])) hi
   ·refine ih _ _ (fun y hy => hu y (by simp [hy])) fun y hy => ?_
    rcases List.mem_append.1 hy with z | z
    ·exact hi y z
    ·rw [List.mem_singleton.1 z]; exact hu x (by simp)
 have h2 := h1 xs l [] hx (by simp)
 have hd : ∀ (p : TT → Bool) (ns : List Int), ∀ y ∈ (dissS p ns [] (liftS l [] xs).2).2, depthT y ≤ d := fun p ns y hy => by
  rcases mem_diss2.1 hy with z | ⟨x, hxs, ⟨_, hyx⟩ | ⟨_, rfl⟩⟩
  ·cases z
  ·have h3 := h2 x hxs
   obtain ⟨b, m, us⟩ := x
   cases d with
   | zero => have := depth_pos ⟨b, m, us⟩; omega
   | succ d => exact Nat.le_succ_of_le (depth_le.1 h3 y hyx)
  ·exact h2 y hxs
 have h3 : ∀ y ∈ (mergT a (liftS l [] xs).1 (liftS l [] xs).2).2.2, depthT y ≤ d := by
  unfold mergT
  split
  ·exact hd _ _
  ·split
   ·exact hd _ _
   ·exact h2
 have h4 : ∀ y ∈ sortT (mergT a (liftS l [] xs).1 (liftS l [] xs).2).2.2, depthT y ≤ d := fun y hy => h3 y ((sortT_perm _).mem_iff.1 hy)
 unfold levT
 rcases fin_form (mergT a (liftS l [] xs).1 (liftS l [] xs).2).1 (sortN (mergT a (liftS l [] xs).1 (liftS l [] xs).2).2.1) (sortT (mergT a (liftS l [] xs).1 (liftS l [] xs).2).2.2) with e | ⟨_, x, hx', e⟩
 ·rw [e]; exact depth_le.2 h4
 ·rw [e]; exact Nat.le_succ_of_le (h4 x (by rw [hx']; simp))
theorem norm_depth : ∀ t : TT, depthT (normT t) ≤ depthT t := tt_ind fun a l ts ih => by
 rw [normT_eq]
 obtain ⟨d, hd⟩ : ∃ d, depthT ⟨a, l, ts⟩ = d + 1 := ⟨depthT ⟨a, l, ts⟩ - 1, by have := depth_pos ⟨a, l, ts⟩; omega⟩
 rw [hd]
 refine lev_depth fun x hx => ?_
 obtain ⟨t, ht, rfl⟩ := List.mem_map.1 hx
 exact Nat.le_trans (ih t ht) (depth_le.1 (Nat.le_of_eq hd) t ht)
end Go.Proofs.Ytfkpimjiaijmgaa.Q
end
