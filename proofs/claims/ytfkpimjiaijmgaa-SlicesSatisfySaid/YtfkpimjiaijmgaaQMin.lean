/- The least sets of a predicate that grows with the set; Slices and Blocking told. -/
import Derived.Test.YtfkpimjiaijmgaaGx0
import Derived.Test.YtfkpimjiaijmgaaGx11
import Derived.Test.YtfkpimjiaijmgaaGx12
import Derived.Test.YtfkpimjiaijmgaaGx13
import Derived.Test.YtfkpimjiaijmgaaGx14
import Derived.Test.YtfkpimjiaijmgaaGx15
import Derived.Test.YtfkpimjiaijmgaaVLeast
import Derived.Test.YtfkpimjiaijmgaaQTape
import Derived.Test.YtfkpimjiaijmgaaQHas
import Derived.Test.YtfkpimjiaijmgaaQTrust
import Derived.Test.YtfkpimjiaijmgaaQValid
namespace Go.Proofs.Ytfkpimjiaijmgaa.Q
open Go.RowKit Go.Proofs.Ytfkpimjiaijmgaa.G Go.Proofs.YtfkpimjiaijmgaaW.PrintWords Go.Proofs.YtfkpimjiaijmgaaW.PrintLast Go.Proofs.YtfkpimjiaijmgaaW.PrintMore Go.Proofs.YtfkpimjiaijmgaaV
set_option linter.unusedVariables false
theorem ev_list {ι α : Type} {g : ι → Nat → Option α} {r : ι → α} : ∀ {l : List ι}, (∀ s ∈ l, Ev (g s) (r s)) → ∃ K, ∀ k, K ≤ k → ∀ s ∈ l, g s k = some (r s)
  | [], _ => ⟨0, fun _ _ s hs => by cases hs⟩
  | x :: l, h => by
    obtain ⟨K, hK⟩ := ev_list (l := l) fun s hs => h s (List.mem_cons_of_mem _ hs)
    obtain ⟨M, hM⟩ := h x (List.mem_cons_self ..)
    refine ⟨max K M, fun k hk s hs => ?_⟩
    rcases List.mem_cons.1 hs with rfl | hs
    · exact hM k (by omega)
    · exact hK k (by omega) s hs
theorem ev_filterO {ι : Type} {g : ι → Nat → Option Bool} {r : ι → Bool} {l : List ι} (h : ∀ s ∈ l, Ev (g s) (r s)) : Ev (fun k => filterO (fun s => g s k) l) (l.filter r) := by
  obtain ⟨K, hK⟩ := ev_list h
  exact ⟨K, fun k hk => filterO_of (hK k hk)⟩
def setsOf (p : Fin 1024 → Bool) : List Int := (allF.filter p).map fun s => (s.1 : Int)
def minsT (t : TT) : List Int := leastL (setsOf fun s => satT t (s.1 : Int))
def blksT (t : TT) : List Int := leastL (setsOf fun s => isSet (s.1 : Int) && !satT t (1023 - (s.1 : Int)))
theorem slices_ev {d : Nat} (hd : d ≤ 8) {t : TT} (h : SmD d t) (hv : validT t = 0) : Ev (fun k => slices_Slices.f k t.f0 t.f1 t.f2) (minsT t, 0) := by
  refine Ev.congr (fun k => by unfold slices_Slices.f; rfl) (Ev.bind (valid_ev hd h) ?_)
  rw [hv]
  exact Ev.congr (fun k => if_pos rfl) (Ev.bind (ev_filterO (g := fun (s : Fin 1024) k => threshold_Satisfied.f k t.f0 t.f1 t.f2 (s.1 : Int)) fun s _ => sat_ev (s.1 : Int) h.sm) (Ev.now _))
theorem blocking_ev {d : Nat} (hd : d ≤ 8) {t : TT} (h : SmD d t) (hv : validT t = 0) : Ev (fun k => slices_Blocking.f k t.f0 t.f1 t.f2) (blksT t, 0) := by
  refine Ev.congr (fun k => by unfold slices_Blocking.f; rfl) (Ev.bind (valid_ev hd h) ?_)
  rw [hv]
  exact Ev.congr (fun k => if_pos rfl) (Ev.bind (ev_filterO (g := fun (s : Fin 1024) k => threshold_Blocked.f k t.f0 t.f1 t.f2 (s.1 : Int)) fun s _ => blk_ev (s.1 : Int) h.sm) (Ev.now _))
theorem subI_N {s u : Int} (h : subI s u = true) : subN s u := by
  intro i hi
  have h' := congrArg (fun z => z.testBit i) (beq_iff_eq.1 h)
  simp only [Nat.testBit_and, hi, Bool.true_and] at h'
  exact h'
theorem subI_of {s u : Int} (h : subN s u) : subI s u = true := by
  refine beq_iff_eq.2 (Nat.eq_of_testBit_eq fun i => ?_)
  rw [Nat.testBit_and]
  cases hs : s.toNat.testBit i with
  | false => rfl
  | true => rw [h i hs]; rfl
theorem least_some (p : Fin 1024 → Bool) (z : Fin 1024) (h : p z = true) : ∃ c ∈ leastL (setsOf p), subI c (z.1 : Int) = true := by
  unfold leastL
  exact keep_some _ [] _ ((sortSets_perm _).mem_iff.2 (List.mem_filter.2 ⟨mem_setsOf.2 ⟨z, h, rfl⟩, isSet_fin z⟩))
theorem least_in {p : Fin 1024 → Bool} {x : Int} (h : x ∈ leastL (setsOf p)) : ∃ s : Fin 1024, p s = true ∧ x = (s.1 : Int) := mem_setsOf.1 (mem_leastL.1 h).1
def Grows (p : Fin 1024 → Bool) : Prop := ∀ s u : Fin 1024, subN (s.1 : Int) (u.1 : Int) → p s = true → p u = true
theorem least_any {p : Fin 1024 → Bool} (hp : Grows p) (z : Fin 1024) : (leastL (setsOf p)).any (fun s => subI s (z.1 : Int)) = p z := by
  rw [Bool.eq_iff_iff, List.any_eq_true]
  constructor
  · rintro ⟨x, hx, hs⟩
    obtain ⟨s, h, rfl⟩ := least_in hx
    exact hp s z (subI_N hs) h
  · intro h
    exact least_some p z h
theorem sat_grows {t : TT} (ht : Sm t) : Grows fun s => satT t (s.1 : Int) := fun _ u h hs => sat_mono (isSet_fin u) h ht hs
theorem flip_bit {z : Nat} (hz : z < 1024) (i : Nat) : (1023 - z).testBit i = (decide (i < 10) && !z.testBit i) := by
  rw [show 1023 - z = 2 ^ 10 - (z + 1) by omega]
  exact Nat.testBit_two_pow_sub_succ (by omega) i
theorem and_sub {s z : Int} (hs : isSet s = true) (hz : isSet z = true) : (Go.bits .and .i64 s z == s) = subI s z := by
  obtain ⟨n, rfl, hn⟩ := isSet_nat hs
  obtain ⟨m, rfl, hm⟩ := isSet_nat hz
  rw [i64_and_nat n m (by omega) (by omega)]
  unfold subI
  rw [Bool.eq_iff_iff]; simp only [beq_iff_eq, Int.toNat_natCast]; omega
theorem and_flip {s z : Int} (hs : isSet s = true) (hz : isSet z = true) : (Go.bits .and .i64 s z != 0) = !subI s (1023 - z) := by
  obtain ⟨n, rfl, hn⟩ := isSet_nat hs
  obtain ⟨m, rfl, hm⟩ := isSet_nat hz
  rw [i64_and_nat n m (by omega) (by omega)]
  unfold subI
  rw [show (1023 - (m : Int)).toNat = 1023 - m by omega, Int.toNat_natCast, bne]
  refine congrArg (fun b => !b) ?_
  rw [Bool.eq_iff_iff]; simp only [beq_iff_eq]
  have e : ((n &&& m : Nat) : Int) = 0 ↔ n &&& m = 0 := by omega
  rw [e]
  constructor
  · intro h
    refine Nat.eq_of_testBit_eq fun i => ?_
    have := congrArg (fun z => z.testBit i) h
    simp only [Nat.testBit_and, Nat.zero_testBit] at this
    rw [Nat.testBit_and, flip_bit hm]
    cases hi : n.testBit i with
    | false => rfl
    | true =>
      have h10 : i < 10 := by
        rcases Nat.lt_or_ge i 10 with h | h
        · exact h
        · have := Nat.testBit_lt_two_pow (Nat.lt_of_lt_of_le (show n < 2 ^ 10 by omega) (Nat.pow_le_pow_right (by omega) h)); rw [hi] at this; cases this
      rw [hi] at this
      simp [h10, by simpa using this]
  · intro h
    refine Nat.eq_of_testBit_eq fun i => ?_
    have := congrArg (fun z => z.testBit i) h
    simp only [Nat.testBit_and, flip_bit hm] at this
    rw [Nat.testBit_and, Nat.zero_testBit]
    revert this
    cases n.testBit i <;> cases m.testBit i <;> simp
theorem keep_len : ∀ (l out : List Int), (keepLeast out l).length ≤ out.length + l.length
  | [], _ => by simp [keepLeast]
  | x :: l, out => by
    unfold keepLeast
    refine Nat.le_trans (keep_len l _) ?_
    split <;> simp <;> omega
theorem allF_len : allF.length = 1024 := by decide +kernel
theorem least_len (p : Fin 1024 → Bool) : (leastL (setsOf p)).length ≤ 1024 := by
  have h1 := keep_len (sortSets ((setsOf p).filter isSet)) []
  have h2 := (sortSets_perm ((setsOf p).filter isSet)).length_eq
  have h3 := List.length_filter_le isSet (setsOf p)
  have h4 := List.length_filter_le p allF
  have h5 : (setsOf p).length = (allF.filter p).length := by unfold setsOf; rw [List.length_map]
  have h6 := allF_len
  have h7 : ([] : List Int).length = 0 := rfl
  unfold leastL; omega
end Go.Proofs.Ytfkpimjiaijmgaa.Q
