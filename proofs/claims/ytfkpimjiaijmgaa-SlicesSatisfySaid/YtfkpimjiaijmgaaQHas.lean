/- Is a node in a set: the program and the reference tell the same. -/
import Derived.Test.YtfkpimjiaijmgaaGx0
import Derived.Test.YtfkpimjiaijmgaaGx3
import Derived.Test.YtfkpimjiaijmgaaGx5
import Derived.Test.YtfkpimjiaijmgaaGx8
import Derived.Test.YtfkpimjiaijmgaaVLeast
namespace Go.Proofs.Ytfkpimjiaijmgaa.Q
open Go.RowKit Go.Proofs.Ytfkpimjiaijmgaa.G Go.Proofs.YtfkpimjiaijmgaaW.PrintWords Go.Proofs.YtfkpimjiaijmgaaW.PrintLast Go.Proofs.YtfkpimjiaijmgaaW.PrintMore Go.Proofs.YtfkpimjiaijmgaaV
set_option linter.unusedVariables false
/-! ### Membership -/
def hasI (s k : Int) : Bool := isSet s && (decide (0 ≤ k) && (decide (k < 10) && s.toNat.testBit k.toNat))
theorem valid_eqI (x : Int) : nodeset_Valid.f x = some (isSet x) := valid_eq x
theorem refValid_eq (x : Int) : trustquorumref01_Valid.f x = some (isSet x) := by
  unfold trustquorumref01_Valid.f isSet
  by_cases h : 0 ≤ x
  · simp [h, ge_iff_le]; omega
  · simp [h, ge_iff_le]
theorem has_eq (s k : Int) : nodeset_Has.f s k = some (hasI s k) := by
  unfold nodeset_Has.f hasI
  rw [valid_eqI]
  simp only [Option.bind_some]
  cases hs : isSet s with
  | false => simp
  | true =>
    by_cases h0 : 0 ≤ k
    · by_cases h1 : k < 10
      · obtain ⟨n, rfl, hn⟩ := isSet_nat hs
        obtain ⟨m, rfl⟩ := Int.eq_ofNat_of_zero_le h0
        have := (by decide +kernel : ∀ n : Fin 1024, ∀ m : Fin 10, (Go.bits .and .i64 (n.1 : Int) (shl .i64 1 (m.1 : Int)) != 0) = n.1.testBit m.1) ⟨n, hn⟩ ⟨m, by omega⟩
        simp only [ge_iff_le, h0, h1, if_true, decide_true, Bool.true_and, Int.toNat_natCast, this]
      · simp [ge_iff_le, h0, h1]
    · simp [ge_iff_le, h0]
theorem refHas_eq (s k : Int) : trustquorumref01_Has.f s k = some (hasI s k) := by
  unfold trustquorumref01_Has.f hasI
  rw [refValid_eq]
  simp only [Option.bind_some]
  cases hs : isSet s with
  | false => simp
  | true =>
    by_cases h0 : 0 ≤ k
    · by_cases h1 : k < 10
      · obtain ⟨n, rfl, hn⟩ := isSet_nat hs
        obtain ⟨m, rfl⟩ := Int.eq_ofNat_of_zero_le h0
        have := (by decide +kernel : ∀ n : Fin 1024, ∀ m : Fin 10, (Go.bits .and .i64 (shr .i64 (n.1 : Int) (m.1 : Int)) 1 == 1) = n.1.testBit m.1) ⟨n, hn⟩ ⟨m, by omega⟩
        simp only [ge_iff_le, h0, h1, if_true, decide_true, Bool.true_and, Int.toNat_natCast, this]
      · simp [ge_iff_le, h0, h1]
    · simp [ge_iff_le, h0]
end Go.Proofs.Ytfkpimjiaijmgaa.Q
