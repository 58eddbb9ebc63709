/- The bit operations of int, at numbers that are not negative. -/
import Derived.Laws.BitsAllLaws
import Derived.IntWalk
import Derived.Test.YtfkpimjiaijmgaaVSpec
namespace Go.Proofs.YtfkpimjiaijmgaaV
open Go Go.RowKit
theorem ofInt_any (n a : Nat) (h : a < 2 ^ n) : (BitVec.ofInt n (a : Int)).toNat = a := by
  rw [BitVec.ofInt_natCast, BitVec.toNat_ofNat]; exact Nat.mod_eq_of_lt h
theorem ofInt_i64 (a : Nat) (h : a < 9223372036854775808) : (BitVec.ofInt IntKind.i64.bits (a : Int)).toNat = a :=
  ofInt_any 64 a (by omega)
theorem wrap_i64 (n : Nat) (h : n < 9223372036854775808) : IntKind.i64.wrap (n : Int) = n := by
  rw [IntKind.wrap_i64]; omega
theorem and_le (a b : Nat) (h : a < 9223372036854775808) : a &&& b < 9223372036854775808 := Nat.lt_of_le_of_lt Nat.and_le_left h
theorem i64_and_nat (a b : Nat) (ha : a < 9223372036854775808) (hb : b < 9223372036854775808) : bits .and .i64 (a : Int) (b : Int) = ((a &&& b : Nat) : Int) := by
  show IntKind.i64.wrap ((BitVec.ofInt IntKind.i64.bits (a : Int) &&& BitVec.ofInt IntKind.i64.bits (b : Int)).toNat : Int) = _
  rw [BitVec.toNat_and, ofInt_i64 a ha, ofInt_i64 b hb, wrap_i64 _ (and_le a b ha)]
theorem i64_or_nat (a b : Nat) (ha : a < 9223372036854775808) (hb : b < 9223372036854775808) : bits .or .i64 (a : Int) (b : Int) = ((a ||| b : Nat) : Int) := by
  have h : a ||| b < 2 ^ 63 := Nat.or_lt_two_pow (by omega) (by omega)
  show IntKind.i64.wrap ((BitVec.ofInt IntKind.i64.bits (a : Int) ||| BitVec.ofInt IntKind.i64.bits (b : Int)).toNat : Int) = _
  rw [BitVec.toNat_or, ofInt_i64 a ha, ofInt_i64 b hb, wrap_i64 _ (by omega)]
theorem i64_andNot_nat (a b : Nat) (ha : a < 9223372036854775808) (hb : b < 9223372036854775808) : bits .andNot .i64 (a : Int) (b : Int) = ((a &&& (18446744073709551615 - b) : Nat) : Int) := by
  show IntKind.i64.wrap ((BitVec.ofInt IntKind.i64.bits (a : Int) &&& ~~~BitVec.ofInt IntKind.i64.bits (b : Int)).toNat : Int) = _
  rw [BitVec.toNat_and, BitVec.toNat_not, ofInt_i64 a ha, ofInt_i64 b hb]
  have e : 2 ^ IntKind.i64.bits - 1 - b = 18446744073709551615 - b := congrArg (· - b) (by decide +kernel)
  rw [e, wrap_i64 _ (and_le a _ ha)]
/-- a without b is nothing: a lies in b. -/
theorem andNot_zero (a b : Nat) (ha : a < 9223372036854775808) (hb : b < 9223372036854775808) : (bits .andNot .i64 (a : Int) (b : Int) = 0) ↔ (a &&& b) = a := by
  rw [i64_andNot_nat a b ha hb]
  have hb' : b < 2 ^ 64 := by omega
  have key : ∀ i, (a &&& (18446744073709551615 - b)).testBit i = (a.testBit i && !(b.testBit i)) := by
    intro i
    rw [Nat.testBit_and]
    by_cases hi : i < 64
    · have : (18446744073709551615 - b).testBit i = !b.testBit i := by
        have := Nat.testBit_two_pow_sub_succ hb' i
        rw [show 18446744073709551615 - b = 2 ^ 64 - (b + 1) from by omega, this]; simp [hi]
      rw [this]
    · have h0 : a.testBit i = false := Nat.testBit_lt_two_pow (Nat.lt_of_lt_of_le (show a < 2 ^ 64 by omega) (Nat.pow_le_pow_right (by omega) (by omega)))
      simp [h0]
  constructor
  · intro h
    have h0 : (a &&& (18446744073709551615 - b)) = 0 := by omega
    apply Nat.eq_of_testBit_eq
    intro i
    have := key i
    rw [h0, Nat.zero_testBit] at this
    rw [Nat.testBit_and]
    revert this; cases a.testBit i <;> cases b.testBit i <;> simp
  · intro h
    have : (a &&& (18446744073709551615 - b)) = 0 := by
      apply Nat.eq_of_testBit_eq
      intro i
      rw [key i, Nat.zero_testBit]
      have := congrArg (fun z => z.testBit i) h
      simp only [Nat.testBit_and] at this
      revert this; cases a.testBit i <;> cases b.testBit i <;> simp
    omega

def subG (t s : Int) : Bool := decide (bits .andNot .i64 t s = 0)
def keepG : List Int → List Int → List Int
  | out, [] => out
  | out, s :: l => keepG (if (!(out.any fun t => subG t s)) = true then out ++ [s] else out) l
theorem keepG_step {L : List Int} {i : Nat} (h : i < L.length) (out : List Int) : keepG out (L.drop i) = keepG (if (!(out.any fun t => subG t (L.getD i 0))) = true then out ++ [L.getD i 0] else out) (L.drop (i + 1)) := by
  rw [List.drop_eq_getElem_cons h]
  simp [keepG, List.getD, h]
theorem isSet_nat {x : Int} (h : isSet x = true) : ∃ n : Nat, x = (n : Int) ∧ n < 1024 := by
  simp only [isSet, Bool.and_eq_true, decide_eq_true_eq] at h
  exact ⟨x.toNat, by omega, by omega⟩
theorem subG_eq {t s : Int} (ht : isSet t = true) (hs : isSet s = true) : subG t s = subI t s := by
  obtain ⟨a, rfl, ha⟩ := isSet_nat ht
  obtain ⟨b, rfl, hb⟩ := isSet_nat hs
  unfold subG subI
  rw [Bool.eq_iff_iff]
  simp only [decide_eq_true_eq, Int.toNat_natCast, beq_iff_eq]
  exact andNot_zero a b (by omega) (by omega)
theorem keepG_eq : ∀ (l out : List Int), (∀ x ∈ l, isSet x = true) → (∀ x ∈ out, isSet x = true) → keepG out l = keepLeast out l
  | [], _, _, _ => rfl
  | s :: l, out, hl, ho => by
    have e : (out.any fun t => subG t s) = out.any fun t => subI t s := by
      rw [Bool.eq_iff_iff]
      simp only [List.any_eq_true]
      constructor
      · rintro ⟨t, ht, h⟩; exact ⟨t, ht, by rw [← subG_eq (ho t ht) (hl s (by simp))]; exact h⟩
      · rintro ⟨t, ht, h⟩; exact ⟨t, ht, by rw [subG_eq (ho t ht) (hl s (by simp))]; exact h⟩
    unfold keepG keepLeast
    rw [e]
    cases (out.any fun t => subI t s) with
    | true => exact keepG_eq l out (fun x hx => hl x (by simp [hx])) ho
    | false =>
      refine keepG_eq l (out ++ [s]) (fun x hx => hl x (by simp [hx])) ?_
      intro x hx
      rcases List.mem_append.1 hx with h | h
      · exact ho x h
      · rw [List.mem_singleton.1 h]; exact hl s (by simp)
theorem keepG_least (l : List Int) : keepG [] (sortSets (l.filter isSet)) = leastL l := by
  refine keepG_eq _ _ (fun x hx => ?_) (by simp)
  have := (List.mem_mergeSort.1 hx)
  exact (List.mem_filter.1 this).2
end Go.Proofs.YtfkpimjiaijmgaaV
