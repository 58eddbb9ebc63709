-- PRINTED by print.py (a twelfth state) out of the translation. Not trusted: Lean checks it.
import Derived.Test.YtfkpimjiaijmgaaGx0
import Derived.Test.YtfkpimjiaijmgaaGx7
import Derived.Test.YtfkpimjiaijmgaaGx12
import Derived.Test.YtfkpimjiaijmgaaGx13
import Derived.Test.YtfkpimjiaijmgaaGx14
import Derived.Test.YtfkpimjiaijmgaaGx15
import Derived.Test.YtfkpimjiaijmgaaGx16
import Derived.Test.YtfkpimjiaijmgaaVKit
import Derived.Test.YtfkpimjiaijmgaaVLeast
namespace Go.Proofs.Ytfkpimjiaijmgaa.G
open Go.RowKit Go.Proofs.YtfkpimjiaijmgaaW.PrintWords Go.Proofs.YtfkpimjiaijmgaaW.PrintLast Go.Proofs.YtfkpimjiaijmgaaW.PrintMore
attribute [local go_sem] max2_int min2_int max_two min_two max_three min_three max_four min_four   -- for this text's walks alone
set_option linter.unusedVariables false
set_option linter.unusedSimpArgs false

-- GIVEN BY HAND: law05_awake.lean
section
set_option maxRecDepth 100000
open YtfkpimjiaijmgaaV
theorem awake_valid : threshold_Valid.f 12 2 [0, 1] [(⟨1, [2, 3], []⟩ : S27)] = some 0 := by decide +kernel
def bitN (s k : Nat) : Nat := s / 2 ^ k % 2
def awS (s : Nat) : Bool := decide (2 ≤ bitN s 0 + bitN s 1 + max (bitN s 2) (bitN s 3))
def awB (s : Nat) : Bool := decide (¬ 2 ≤ (1 - bitN s 0) + (1 - bitN s 1) + max (1 - bitN s 2) (1 - bitN s 3))
theorem awake_sat : ∀ s : Fin 1024, threshold_Satisfied.f 12 2 [0, 1] [(⟨1, [2, 3], []⟩ : S27)] (s.1 : Int) = some (awS s.1) := by decide +kernel
theorem awake_blk : ∀ s : Fin 1024, threshold_Blocked.f 12 2 [0, 1] [(⟨1, [2, 3], []⟩ : S27)] (s.1 : Int) = some (awB s.1) := by decide +kernel
theorem awake_slices : slices_Slices.f 12 2 [0, 1] [(⟨1, [2, 3], []⟩ : S27)] = some ([3, 5, 6, 9, 10], 0) := by
  unfold slices_Slices.f
  rw [awake_valid]
  simp only [Option.bind_some, if_true]
  rw [filterO_of (q := fun s : Fin 1024 => awS s.1) (fun x _ => awake_sat x)]
  simp only [Option.bind_some]
  rw [leastL_checked awS [3, 5, 6, 9, 10] (by decide +kernel)]
  rfl
theorem awake_blocking : slices_Blocking.f 12 2 [0, 1] [(⟨1, [2, 3], []⟩ : S27)] = some ([3, 13, 14], 0) := by
  unfold slices_Blocking.f
  rw [awake_valid]
  simp only [Option.bind_some, if_true]
  rw [filterO_of (q := fun s : Fin 1024 => awB s.1) (fun x _ => awake_blk x)]
  simp only [Option.bind_some]
  rw [leastL_checked awB [3, 13, 14] (by decide +kernel)]
  rfl
theorem C_oneTrust {W : World} {g : Nat} {x : S27} {cs : Array Value} (hb : W.heap[g]? = some (.cells cs 27 (0, 0))) (hl : cs.size = 3) (hK : k27.K W x cs.toList) : Kd.C k27 W (some ⟨g, 0, none⟩) 1 [x] := by
  refine ⟨rfl, by omega, fun _ => ⟨_, rfl, fun j p hj => ?_⟩⟩
  have hj0 : j = 0 := by
    have := (List.getElem?_eq_some_iff.1 hj).1; simp at this; omega
  subst hj0
  obtain rfl : x = p := by simpa using hj
  refine ⟨cs.toList, by rw [Array.length_toList, hl]; rfl, hK, fun i u hi => ?_⟩
  rw [Nat.zero_mul, Nat.zero_add, add_plain]
  rw [Array.getElem?_toList] at hi
  exact (blk_cell hb i).trans hi
set_option maxHeartbeats 1000000 in
theorem awake_walk (w : World) :
    Calls Try.prog 13 #[] w fun e w' => e = .returned (.bool true) ∧ Below w.heap.size w w' := by
  go_enter Try.func13, Try.ntmps13
  go_wp2_with fail
  have b1 : Below w.heap.size w ((((w.alloc (Obj.cells #[Value.int IntKind.i64 0, Value.int IntKind.i64 1] 3)).alloc (Obj.cells #[Value.int IntKind.i64 2, Value.int IntKind.i64 3] 3)).alloc (Obj.cells #[Value.int IntKind.i64 1, Value.slice (some { block := w.heap.size + 1, off := 0 }) 2 2, Value.slice none 0 0] 27))) := below_alloc (below_alloc (below_alloc (Below.refl _ _) _) _) _
  have hC0 : Kd.C (Kd.int .i64) ((((w.alloc (Obj.cells #[Value.int IntKind.i64 0, Value.int IntKind.i64 1] 3)).alloc (Obj.cells #[Value.int IntKind.i64 2, Value.int IntKind.i64 3] 3)).alloc (Obj.cells #[Value.int IntKind.i64 1, Value.slice (some { block := w.heap.size + 1, off := 0 }) 2 2, Value.slice none 0 0] 27))) (some ⟨w.heap.size, 0, none⟩) 2 [0, 1] :=
    Kd.C_alloc (Kd.C_alloc (YtfkpimjiaijmgaaV.C_pair w 0 1 3) _) _
  have hC1 : Kd.C (Kd.int .i64) ((((w.alloc (Obj.cells #[Value.int IntKind.i64 0, Value.int IntKind.i64 1] 3)).alloc (Obj.cells #[Value.int IntKind.i64 2, Value.int IntKind.i64 3] 3)).alloc (Obj.cells #[Value.int IntKind.i64 1, Value.slice (some { block := w.heap.size + 1, off := 0 }) 2 2, Value.slice none 0 0] 27))) (some ⟨w.heap.size + 1, 0, none⟩) 2 [2, 3] := by
    have := YtfkpimjiaijmgaaV.C_pair (w.alloc (Obj.cells #[Value.int IntKind.i64 0, Value.int IntKind.i64 1] 3)) 2 3 3
    rw [World.size_alloc] at this
    exact Kd.C_alloc this _
  have hC2 := C_oneTrust (W := ((((w.alloc (Obj.cells #[Value.int IntKind.i64 0, Value.int IntKind.i64 1] 3)).alloc (Obj.cells #[Value.int IntKind.i64 2, Value.int IntKind.i64 3] 3)).alloc (Obj.cells #[Value.int IntKind.i64 1, Value.slice (some { block := w.heap.size + 1, off := 0 }) 2 2, Value.slice none 0 0] 27)))) (g := w.heap.size + 1 + 1) (x := ⟨1, [2, 3], []⟩)
    (by have := heap_alloc_new ((w.alloc (Obj.cells #[Value.int IntKind.i64 0, Value.int IntKind.i64 1] 3)).alloc (Obj.cells #[Value.int IntKind.i64 2, Value.int IntKind.i64 3] 3)) (Obj.cells #[Value.int IntKind.i64 1, Value.slice (some { block := w.heap.size + 1, off := 0 }) 2 2, Value.slice none 0 0] 27); rw [World.size_alloc, World.size_alloc] at this; exact this) rfl
    (k27_mk _ (⟨1, [2, 3], []⟩ : S27) (c1 := 2) (Nat.le_refl 2) hC1 (c2 := 0) (Nat.le_refl 0) (Kd.C_nil _ _))
  have hsz : ((((w.alloc (Obj.cells #[Value.int IntKind.i64 0, Value.int IntKind.i64 1] 3)).alloc (Obj.cells #[Value.int IntKind.i64 2, Value.int IntKind.i64 3] 3)).alloc (Obj.cells #[Value.int IntKind.i64 1, Value.slice (some { block := w.heap.size + 1, off := 0 }) 2 2, Value.slice none 0 0] 27))).heap.size = w.heap.size + 1 + 1 + 1 := by simp
  generalize ((((w.alloc (Obj.cells #[Value.int IntKind.i64 0, Value.int IntKind.i64 1] 3)).alloc (Obj.cells #[Value.int IntKind.i64 2, Value.int IntKind.i64 3] 3)).alloc (Obj.cells #[Value.int IntKind.i64 1, Value.slice (some { block := w.heap.size + 1, off := 0 }) 2 2, Value.slice none 0 0] 27))) = W at *
  clear hC1
  have HSZ := Aside0.mk hsz
  clear hsz
  have HS := Aside0.mk (fun X h0 h2 => slices_Slices.calls 12 2 (some ⟨w.heap.size, 0, none⟩) 2 [0, 1] (some ⟨w.heap.size + 1 + 1, 0, none⟩) 1 [⟨1, [2, 3], []⟩] [3, 5, 6, 9, 10] 0 X h0 (Nat.le_refl 2) h2 (Nat.le_refl 1) awake_slices)
  have HB := Aside0.mk (fun X h0 h2 => slices_Blocking.calls 12 2 (some ⟨w.heap.size, 0, none⟩) 2 [0, 1] (some ⟨w.heap.size + 1 + 1, 0, none⟩) 1 [⟨1, [2, 3], []⟩] [3, 13, 14] 0 X h0 (Nat.le_refl 2) h2 (Nat.le_refl 1) awake_blocking)
  have HBX := Aside0.mk (heap_alloc_new W (.cells #[.int .i64 2, .slice (some ⟨w.heap.size, 0, none⟩) 2 2, .slice (some ⟨w.heap.size + 1 + 1, 0, none⟩) 1 1] 27))
  have HC0 := Aside0.mk hC0
  have HC2 := Aside0.mk hC2
  have HB1 := Aside0.mk b1
  clear hC0 hC2 b1
  refine (HS.out _ (Kd.C_alloc HC0.out _) (Kd.C_alloc HC2.out _)).mono ?_
  rintro e w1 ⟨v1, rfl, hr1, hb1⟩
  have hbx1 := (hb1.block _ (Array.getElem?_eq_some_iff.1 HBX.out).1).trans HBX.out
  rw [HSZ.out] at hbx1
  have x0 : w1.cell? ⟨w.heap.size + 1 + 1 + 1, 0, none⟩ = some (.int .i64 2) := (blk_cell hbx1 0).trans rfl
  have x1 : w1.cell? ⟨w.heap.size + 1 + 1 + 1, 1, none⟩ = some (.slice (some ⟨w.heap.size, 0, none⟩) 2 2) := (blk_cell hbx1 1).trans rfl
  have x2 : w1.cell? ⟨w.heap.size + 1 + 1 + 1, 2, none⟩ = some (.slice (some ⟨w.heap.size + 1 + 1, 0, none⟩) 1 1) := (blk_cell hbx1 2).trans rfl
  obtain ⟨A1, c1, rfl⟩ := Kd.R_slice hr1
  have HR1 := Aside0.mk hr1
  have HW1 := Aside0.mk hb1
  clear hr1 hb1 hbx1 HS
  go_wp2_with fail
  refine (HB.out _ (Kd.C_below (Kd.C_alloc HC0.out _) HW1.out) (Kd.C_below (Kd.C_alloc HC2.out _) HW1.out)).mono ?_
  rintro e w2 ⟨v2, rfl, hr2, hb2⟩
  obtain ⟨A2, c2, rfl⟩ := Kd.R_slice hr2
  have HR2 := Aside0.mk hr2
  have HW2 := Aside0.mk hb2
  clear hr2 hb2 x0 x1 x2 HB
  go_wp2_with fail
  refine (trustquorummake_Ints.calls 10 A1 c1 [3, 5, 6, 9, 10] _ 5 [3, 5, 6, 9, 10] true _ (Kd.C_alloc (Kd.C_below (Kd.R_reads' HR1.out).2.2 HW2.out) _) (Kd.R_reads' HR1.out).2.1 (YtfkpimjiaijmgaaV.C_lit w2 [3, 5, 6, 9, 10] _ 3 rfl (by simp)) (Nat.le_refl 5) (by decide +kernel)).mono ?_
  rintro e w3 ⟨rfl, nd, rfl⟩
  go_wp2_with fail
  refine (trustquorummake_Ints.calls 10 A2 c2 [3, 13, 14] _ 3 [3, 13, 14] true _ (Kd.C_alloc (Kd.C_drewN (Kd.C_alloc (Kd.R_reads' HR2.out).2.2 _) _) _) (Kd.R_reads' HR2.out).2.1 ?hC (Nat.le_refl 3) (by decide +kernel)).mono ?_
  case hC =>
    have h := YtfkpimjiaijmgaaV.C_lit ((w2.alloc (Obj.cells #[Value.int IntKind.i64 3, Value.int IntKind.i64 5, Value.int IntKind.i64 6, Value.int IntKind.i64 9, Value.int IntKind.i64 10] 3)).drewN nd) [3, 13, 14] _ 3 rfl (by simp)
    have e : ((w2.alloc (Obj.cells #[Value.int IntKind.i64 3, Value.int IntKind.i64 5, Value.int IntKind.i64 6, Value.int IntKind.i64 9, Value.int IntKind.i64 10] 3)).drewN nd).heap.size = w2.heap.size + 1 := World.size_alloc _ _
    rw [e] at h
    exact h
  rintro e w3 ⟨rfl, nd, rfl⟩
  go_wp2_with fail
  go_ret
  have h2 : Below w.heap.size w w2 := HB1.out.trans ((below_alloc (Below.refl W.heap.size W) _).trans ((HW1.out.trans (HW2.out.mono HW1.out.size)).mono (by simp)) |>.mono HB1.out.size)
  exact ⟨rfl, pw_below_drewN (below_alloc (pw_below_drewN (below_alloc h2 _) _) _) _⟩
end
def trustquorumlaw05_awake.f : Option Bool := some true
theorem trustquorumlaw05_awake.calls (r : Bool) (w : World) (h : trustquorumlaw05_awake.f = some r) :
    Calls Try.prog 13 #[] w fun e w' => e = .returned (.bool r) ∧ Below w.heap.size w w' := by
  obtain rfl := Option.some.inj h
  exact awake_walk w

end Go.Proofs.Ytfkpimjiaijmgaa.G
