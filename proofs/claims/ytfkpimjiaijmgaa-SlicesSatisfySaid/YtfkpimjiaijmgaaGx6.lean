-- PRINTED by print.py (a twelfth state) out of the translation. Not trusted: Lean checks it.
import Derived.Test.YtfkpimjiaijmgaaGx0
import Derived.Test.YtfkpimjiaijmgaaGx5
import Derived.Test.YtfkpimjiaijmgaaVKit
import Derived.Test.YtfkpimjiaijmgaaSh
namespace Go.Proofs.Ytfkpimjiaijmgaa.G
open Go.RowKit Go.Proofs.YtfkpimjiaijmgaaW.PrintWords Go.Proofs.YtfkpimjiaijmgaaW.PrintLast Go.Proofs.YtfkpimjiaijmgaaW.PrintMore
attribute [local go_sem] max2_int min2_int max_two min_two max_three min_three max_four min_four   -- for this text's walks alone
set_option linter.unusedVariables false
set_option linter.unusedSimpArgs false

-- GIVEN BY HAND: threshold_level_1.lean
section
open Go.Sort Go.Lib YtfkpimjiaijmgaaV
def isNode (x : Int) : Bool := decide (0 ≤ x) && decide (x < 10)
theorem node_eq (x : Int) : threshold_node.f x = some (isNode x) := by
  unfold threshold_node.f isNode
  by_cases h : 0 ≤ x <;> simp [h, ge_iff_le]
theorem level1_gives (x : Int) (W : World) : FnGives Try.prog 55 #[] #[.int .i64 x] (.bool (!isNode x)) W := by
  have A := Aside0.mk (node_eq x)
  unfold FnGives
  generalize isNode x = b at *
  show Calls Try.prog 55 #[.int .i64 x] W _
  go_enter Try.func55, Try.ntmps55
  go_wp2_with (first | (go_at_call 56; (with_reducible refine (threshold_node.calls x b _ A.out).mono ?_); rintro e w' ⟨rfl, ⟨nd, rfl⟩⟩))
  go_ret
  exact ⟨rfl, _, rfl⟩
end
def threshold_level_1.f (l0 : List Int) : Option Bool := some (l0.any fun x => !isNode x)
theorem threshold_level_1.calls (A0 : Option Addr) (c0 : Nat) (l0 : List Int) (r : Bool) (w : World) (hr0 : Kd.C (Kd.int .i64) w A0 l0.length l0) (hc0 : l0.length ≤ c0) (h : threshold_level_1.f l0 = some r) :
    Calls Try.prog 54 #[.slice A0 l0.length c0, .func (.func 55) #[] #[]] w fun e w' => e = .returned (.bool r) ∧ Drawn0 w w' := by
  obtain rfl := Option.some.inj h
  by_cases hl : l0 = []
  · subst hl
    refine (Try.slices_ContainsFunc_empty (α := Int) A0 c0 _ w).mono ?_
    rintro e w' ⟨rfl, rfl⟩
    exact ⟨rfl, Drawn0.refl _⟩
  · have hn : 0 < l0.length := List.length_pos_iff.2 hl
    obtain ⟨b, off, rfl, _, hcs⟩ := YtfkpimjiaijmgaaV.addr_of_C hr0 hn
    have hcon := Try.slices_ContainsFunc (Value.int .i64) (fun x => !isNode x) 55 #[] (enters_of Try.func55 (by kernel_rfl) rfl) b off l0.length c0 l0 w
      (fun W' x _ => level1_gives x W') (Nat.le_refl _) (Kd.C_max hr0) (fun j hj => by rw [hcs j hj]; simp [List.getD, hj])
    rw [List.take_length] at hcon
    exact hcon.mono fun e w' ⟨he, q, hq⟩ => ⟨he, ⟨q, hq⟩⟩

end Go.Proofs.Ytfkpimjiaijmgaa.G
