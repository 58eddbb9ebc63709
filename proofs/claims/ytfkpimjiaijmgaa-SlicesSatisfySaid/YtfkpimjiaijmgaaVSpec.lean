/- Sets of nodes as numbers: sizes, their order, least sets. Plain Lean, no program. -/
import Derived.Below
namespace Go.Proofs.YtfkpimjiaijmgaaV

/-- How many of the first ten bits are set. -/
def popc (n : Nat) : Nat := n % 2 + n / 2 % 2 + n / 4 % 2 + n / 8 % 2 + n / 16 % 2 + n / 32 % 2 + n / 64 % 2 + n / 128 % 2 + n / 256 % 2 + n / 512 % 2
theorem popc_bits : ∀ n : Fin 1024, popc n.1 = ((List.range 10).filter fun k => n.1.testBit k).length := by decide +kernel
def isSet (x : Int) : Bool := decide (0 ≤ x) && decide (x < 1024)
def rankI (x : Int) : Int := if isSet x then (popc x.toNat : Int) else -1
def sgn (a b : Int) : Int := if a < b then -1 else if a > b then 1 else 0
def cmpI (a b : Int) : Int := if sgn (rankI a) (rankI b) = 0 then sgn a b else sgn (rankI a) (rankI b)
/-- Is the first set a subset of the second one? -/
def subI (t s : Int) : Bool := (t.toNat &&& s.toNat) == t.toNat
def sortSets (l : List Int) : List Int := l.mergeSort fun x y => !decide (cmpI y x < 0)
def keepLeast : List Int → List Int → List Int
  | out, [] => out
  | out, s :: l => keepLeast (if out.any (fun t => subI t s) then out else out ++ [s]) l
def leastL (l : List Int) : List Int := keepLeast [] (sortSets (l.filter isSet))
/-- All sets, in the order of sets. -/
def setsInOrder : List Int := (List.range 11).flatMap fun c => ((List.range 1024).filter fun x => popc x = c).map Int.ofNat

theorem sgn_cases (a b : Int) : (a < b ∧ sgn a b = -1) ∨ (a > b ∧ sgn a b = 1) ∨ (a = b ∧ sgn a b = 0) := by
  unfold sgn; split
  · exact .inl ⟨‹_›, rfl⟩
  · split
    · exact .inr (.inl ⟨‹_›, rfl⟩)
    · exact .inr (.inr ⟨by omega, rfl⟩)
theorem cmpI_lt (a b : Int) : cmpI a b < 0 ↔ rankI a < rankI b ∨ (rankI a = rankI b ∧ a < b) := by
  unfold cmpI
  rcases sgn_cases (rankI a) (rankI b) with ⟨h, e⟩ | ⟨h, e⟩ | ⟨h, e⟩ <;> rw [e]
  · simp; omega
  · simp; omega
  · rcases sgn_cases a b with ⟨h', e'⟩ | ⟨h', e'⟩ | ⟨h', e'⟩ <;> simp [e', h] <;> omega
end Go.Proofs.YtfkpimjiaijmgaaV
