-- PRINTED by print.py (a twelfth state) out of the translation. Not trusted: Lean checks it.
import Derived.Test.YtfkpimjiaijmgaaGx0
import Derived.Test.YtfkpimjiaijmgaaGx5
import Derived.Test.YtfkpimjiaijmgaaGx7
import Derived.Test.YtfkpimjiaijmgaaGx8
import Derived.Test.YtfkpimjiaijmgaaGx9
import Derived.Test.YtfkpimjiaijmgaaVKit
import Derived.Test.YtfkpimjiaijmgaaVBits
import Derived.Test.YtfkpimjiaijmgaaVOrder
import Derived.Test.YtfkpimjiaijmgaaSh
import Derived.RangeFuncBox
import Derived.RangeFuncLeaves
import Derived.RangeFuncNested
import Derived.RangeFuncBound
import Derived.RangeFuncCalls
import Derived.Shelf.Abstract
import Derived.Shelf.RegionOpen
import Derived.OwnWalkIn
import Derived.TacticsInMore
import Derived.LoopNIn
import Derived.LoopIn
namespace Go.Proofs.Ytfkpimjiaijmgaa.G
open Go.RowKit Go.Proofs.YtfkpimjiaijmgaaW.PrintWords Go.Proofs.YtfkpimjiaijmgaaW.PrintLast Go.Proofs.YtfkpimjiaijmgaaW.PrintMore
attribute [local go_sem] max2_int min2_int max_two min_two max_three min_three max_four min_four   -- for this text's walks alone
set_option linter.unusedVariables false
set_option linter.unusedSimpArgs false

-- GIVEN BY HAND: slices_inOrder.lean
section
set_option maxRecDepth 100000
open Go.Sort Go.Lib Go.Shelf YtfkpimjiaijmgaaV
attribute [local go_sem] Oper.semAt_some

theorem below_eq (x : Int) (n : Nat) (hn : n ≤ 10) : nodeset_below.f x n = some (decide (0 ≤ x) && decide (x < 2 ^ n)) := by
  have e : shl .i64 1 n = 2 ^ n := (by decide +kernel : ∀ m : Fin 11, shl .i64 1 (m.1 : Int) = 2 ^ m.1) ⟨n, by omega⟩
  unfold nodeset_below.f
  rw [e]
  by_cases h : 0 ≤ x <;> simp [h, ge_iff_le]
theorem pow_le_1024 (n : Nat) (hn : n ≤ 10) : 2 ^ n ≤ 1024 := (by decide : ∀ m : Fin 11, 2 ^ m.1 ≤ 1024) ⟨n, by omega⟩
theorem size_eqN (s : Nat) (h : s < 1024) : nodeset_Size.f (s : Int) = some (popc s : Int) := by
  have := size_eq (s : Int) (by simp [isSet]; omega)
  simpa using this
theorem next_loop (n : Nat) (hn : n ≤ 10) (size : Nat) (hs : size ≤ n) : ∀ (d k t : Nat), t + d = 2 ^ n → d < k → ∀ d', d ≤ d' →
    nodeset_Next.l0 k n size t = some (match seek n size d' t with | some u => ((u : Int), true) | none => if size = n then (0, false) else (((2 ^ (size + 1) - 1 : Nat) : Int), true))
  | 0, k + 1, t, ht, _, d', _ => by
    have hp := pow_le_1024 n hn
    have e : seek n size d' t = none := by cases d' <;> simp [seek]; omega
    simp only [nodeset_Next.l0, e]
    rw [below_eq _ n hn]
    have e2 : (decide (0 ≤ (t : Int)) && decide ((t : Int) < 2 ^ n)) = false := by
      have : ¬ ((t : Int) < 2 ^ n) := by have : ((2 ^ n : Nat) : Int) = 2 ^ n := by simp
                                         omega
      simp [this]
    rw [e2]
    simp only [Option.bind_some, Bool.false_eq_true, if_false]
    by_cases h : size = n
    · simp [h]
    · have hne : ¬ ((size : Int) = n) := by omega
      have w1 : wrap64 ((size : Int) + 1) = ((size + 1 : Nat) : Int) := by unfold wrap64; omega
      have e3 : shl .i64 1 ((size + 1 : Nat) : Int) = ((2 ^ (size + 1) : Nat) : Int) := (by decide +kernel : ∀ m : Fin 12, shl .i64 1 (m.1 : Int) = ((2 ^ m.1 : Nat) : Int)) ⟨size + 1, by omega⟩
      have hp2 : 1 ≤ 2 ^ (size + 1) ∧ 2 ^ (size + 1) ≤ 1024 := ⟨Nat.one_le_two_pow, pow_le_1024 _ (by omega)⟩
      rw [if_neg hne, if_neg h, w1, e3, if_pos (by omega)]
      have : wrap64 (((2 ^ (size + 1) : Nat) : Int) - 1) = ((2 ^ (size + 1) - 1 : Nat) : Int) := by unfold wrap64; omega
      rw [this]
  | d + 1, k + 1, t, ht, hk, d' + 1, hd => by
    have hp := pow_le_1024 n hn
    have ht' : t < 2 ^ n := by omega
    simp only [nodeset_Next.l0, seek, if_pos ht']
    rw [below_eq _ n hn]
    have e2 : (decide (0 ≤ (t : Int)) && decide ((t : Int) < 2 ^ n)) = true := by
      have : ((t : Int) < 2 ^ n) := by have : ((2 ^ n : Nat) : Int) = 2 ^ n := by simp
                                       omega
      simp [this]
    rw [e2]
    simp only [Option.bind_some, if_true]
    rw [size_eqN t (by omega)]
    simp only [Option.bind_some]
    by_cases h : popc t = size
    · simp [h]
    · have hne : ¬ ((popc t : Int) = size) := by omega
      rw [if_neg hne, if_neg h]
      have w1 : wrap64 ((t : Int) + 1) = ((t + 1 : Nat) : Int) := by unfold wrap64; omega
      rw [w1]
      exact next_loop n hn size hs d k (t + 1) (by omega) (by omega) d' (by omega)

theorem next_eq (k n : Nat) (hk : 1026 ≤ k) (hn : n ≤ 10) (s : Nat) (hs : s < 2 ^ n) (hsz : popc s ≤ n) :
    nodeset_Next.f k s n = some (match nextN n s with | some u => ((u : Int), true) | none => (0, false)) := by
  have hp := pow_le_1024 n hn
  obtain ⟨k, rfl⟩ : ∃ m, k = m + 1 := ⟨k - 1, by omega⟩
  have e2 : (decide (0 ≤ (s : Int)) && decide ((s : Int) < 2 ^ n)) = true := by
    have : ((s : Int) < 2 ^ n) := by have : ((2 ^ n : Nat) : Int) = 2 ^ n := by simp
                                     omega
    simp [this]
  have w1 : wrap64 ((s : Int) + 1) = ((s + 1 : Nat) : Int) := by unfold wrap64; omega
  have hl := next_loop n hn (popc s) hsz (2 ^ n - (s + 1)) k (s + 1) (by omega) (by omega) 1024 (by omega)
  unfold nodeset_Next.f
  rw [if_neg (by omega), if_neg (by omega), below_eq _ n hn, e2]
  simp only [Option.bind_some, Bool.not_true, nodeset_Next.j0, Bool.false_eq_true, if_false]
  rw [size_eqN s (by omega)]
  simp only [Option.bind_some]
  rw [w1, hl]
  unfold nextN
  generalize seek n (popc s) 1024 (s + 1) = z
  cases z with
  | some u => rfl
  | none => by_cases h : popc s = n <;> simp [h]


theorem next_allF {a : Fin 1024} {l : List (Fin 1024)} (h : chained (a :: l) = true) (k : Nat) (hk : 1026 ≤ k) :
    (l = [] ∧ nodeset_Next.f k a.1 10 = some (0, false)) ∨ ∃ b r, l = b :: r ∧ chained l = true ∧ key a.1 < key b.1 ∧ nodeset_Next.f k a.1 10 = some ((b.1 : Int), true) := by
  have hx := next_eq k 10 hk (by omega) a.1 (by have := a.2; omega) (popc_le _)
  cases l with
  | nil =>
    left
    simp only [chained, beq_iff_eq] at h
    rw [h] at hx
    exact ⟨rfl, hx⟩
  | cons b r =>
    right
    simp only [chained, Bool.and_eq_true, beq_iff_eq, decide_eq_true_eq] at h
    rw [h.1.1] at hx
    exact ⟨b, r, rfl, h.2, h.1.2, hx⟩
def leftOf (v2 v3 : Value) : Nat := match v3 with
  | .bool true => 20000 - key (intOf v2).toNat
  | _ => 0
/-- Where the loop stands: what has come, and what is still to come. -/
inductive AtS (v2 v3 : Value) : List (Fin 1024) → Prop
  | more (x : Fin 1024) (r : List (Fin 1024)) (hc : chained (x :: r) = true) (h2 : v2 = .int .i64 (x.1 : Int)) (h3 : v3 = .bool true) : AtS v2 v3 (x :: r)
  | done (h2 : v2 = .int .i64 0) (h3 : v3 = .bool false) : AtS v2 v3 []
def IsAll (pre rest : List (Fin 1024)) : Prop := pre ++ rest = allF
theorem isAll_lt {pre rest : List (Fin 1024)} {x : Fin 1024} (h : IsAll pre (x :: rest)) : pre.length < allF.length := by
  unfold IsAll at h; rw [← h]; simp
theorem isAll_step {pre rest : List (Fin 1024)} {x : Fin 1024} (h : IsAll pre (x :: rest)) : IsAll (pre ++ [x]) rest := by
  unfold IsAll at *; simpa using h

set_option maxHeartbeats 1000000 in
theorem inOrder_stops (n n₀ : Nat) (hn : 1 ≤ n) (w : World) :
    SeqStopsK Fence.wide n Try.prog 44 #[] (fun x : Fin 1024 => #[Value.int .i64 (x.1 : Int)]) (Below n₀) (fun ys => ys = allF) (fun pre => pre <+: allF) allF.length w := fun l J Jx W hW hJ hJx hY h0 => by
  refine callsIn_of_wp Try.func44 rfl trivial ?_ rfl
  simp only [Try.ntmps44, List.size_toArray, List.length_cons, List.length_nil, Nat.reduceAdd, Nat.reduceSub, Array.replicate_succ, Array.replicate_zero, List.push_toArray, List.append_toArray, List.nil_append, List.cons_append]
  gi_wp2
  gi_loopw [2, 3] (fun v2 v3 wr => ∃ (pre rest : List (Fin 1024)), IsAll pre rest ∧ J pre wr ∧ AtS v2 v3 rest) (fun v2 v3 _ => leftOf v2 v3)
  case atStart =>
    obtain ⟨h1, h2⟩ := chained_all
    refine ⟨[], allF, rfl, h0, ?_⟩
    revert h1 h2
    generalize allF = z
    intro h1 h2
    cases z with
    | nil => simp at h2
    | cons x r =>
      obtain rfl : x = 0 := by simpa using h2
      exact AtS.more 0 r h1 rfl rfl
  case round =>
    obtain ⟨pre, rest, hx, hJs, hat⟩ := hrel
    cases hat with
    | done h2 h3 =>
      subst h2 h3
      gi_wp2
      go_end0
      exact ⟨⟨_, rfl⟩, .inl ⟨pre, by simpa [IsAll] using hx, hJs⟩⟩
    | more x r hc h2 h3 =>
      subst h2 h3
      obtain ⟨fn, tmps, assign, body, hy, hR⟩ := hY pre x wr hJs (isAll_lt hx)
      have HN := Aside0.mk (next_allF hc 2000 (by omega))
      gi_wp2
      refine hR.mono ?_
      rintro e W3 (⟨rfl, hJ3, hk3⟩ | ⟨rfl, hJx3⟩)
      · rcases HN.out with ⟨hr, hnx⟩ | ⟨b, r', hr, hc', hkey, hnx⟩
        · have HX := Aside0.mk hnx
          clear hnx HN
          gi_wp2_with (refine ⟨trivial, ?_⟩; gi_at_call 58; refine (callsIn_wide.2 (nodeset_Next.calls 2000 (x.1 : Int) 10 0 false _ HX.out)).mono ?_; rintro e w' ⟨rfl, ⟨nd, rfl⟩⟩)
          go_roundw
          case rel => exact ⟨pre ++ [x], r, isAll_step hx, hJ _ _ _ none hJ3 (grown_of_below (pw_below_drewN (Below.refl _ _) _) none) (by simp), by rw [hr]; exact AtS.done rfl rfl⟩
          case measure => have := key_le x; simp [leftOf, intOf]; omega
        · have HX := Aside0.mk hnx
          clear hnx HN
          gi_wp2_with (refine ⟨trivial, ?_⟩; gi_at_call 58; refine (callsIn_wide.2 (nodeset_Next.calls 2000 (x.1 : Int) 10 (b.1 : Int) true _ HX.out)).mono ?_; rintro e w' ⟨rfl, ⟨nd, rfl⟩⟩)
          go_roundw
          case rel => exact ⟨pre ++ [x], r, isAll_step hx, hJ _ _ _ none hJ3 (grown_of_below (pw_below_drewN (Below.refl _ _) _) none) (by simp), by rw [hr]; rw [hr] at hc'; exact AtS.more b r' hc' rfl rfl⟩
          case measure => have := key_le x; have := key_le b; simp [leftOf, intOf]; omega
      · gi_wp2
        refine bodyPost_ret (results_none rfl _ _ _) rfl ?_
        exact ⟨⟨_, rfl⟩, .inr ⟨pre ++ [x], ⟨r, by have := isAll_step hx; unfold IsAll at this; exact this⟩, hJx3⟩⟩
end

end Go.Proofs.Ytfkpimjiaijmgaa.G
