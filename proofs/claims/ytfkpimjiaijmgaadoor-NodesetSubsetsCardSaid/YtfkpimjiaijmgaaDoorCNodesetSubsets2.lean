/- NodesetSubsets: the texts of the claim, put together (part 3 of 3). The law is proved in the last one: it takes no condition beyond the statement's own. -/
import Derived.Test.YtfkpimjiaijmgaaDoorRows
import Derived.Test.YtfkpimjiaijmgaaDoorCards
import Derived.Test.YtfkpimjiaijmgaaDoorTie
import Derived.SevenTiedAt
import Derived.LaidMore
import Derived.LaidHandle
import Derived.LaidLaws
import Derived.Stop.Joined
import Derived.WalkKit
import Derived.ProofKit
import Derived.OpenShut
import Derived.ShutString
import Derived.ChangeOld
import Derived.Below
import Derived.SizedLaws
import Derived.Test.YtfkpimjiaijmgaaDoorCNodesetSubsets1
section
namespace Go.Proofs.YtfkpimjiaijmgaaDoorV
/-- a comes before b in the order of sets. -/
def before (a b : Int) : Prop := rankI a < rankI b ∨ (rankI a = rankI b ∧ a < b)
instance (a b : Int) : Decidable (before a b) := inferInstanceAs (Decidable (_ ∨ _))
theorem before_iff (a b : Int) : cmpI a b < 0 ↔ before a b := cmpI_lt a b
theorem before_trans {a b c : Int} (h : before a b) (k : before b c) : before a c := by unfold before at *; omega
theorem before_irrefl (a : Int) : ¬ before a a := by unfold before; omega
theorem before_total (a b : Int) : before a b ∨ a = b ∨ before b a := by unfold before; omega
theorem sortSets_perm (l : List Int) : (sortSets l).Perm l := List.mergeSort_perm _ _
theorem sortSets_sorted (l : List Int) : (sortSets l).Pairwise fun x y => ¬ before y x := by
  have := List.pairwise_mergeSort (le := fun x y => !decide (cmpI y x < 0)) (fun a b c h1 h2 => by
    simp only [Bool.not_eq_true', decide_eq_false_iff_not, before_iff] at *
    unfold before at *; omega) (fun a b => by
    simp only [Bool.or_eq_true, Bool.not_eq_true', decide_eq_false_iff_not, before_iff]
    unfold before; omega) l
  refine this.imp ?_
  intro a b h
  simpa [before_iff] using h
theorem mem_keepLeast : ∀ (l out : List Int) (s : Int), s ∈ keepLeast out l → s ∈ out ∨ s ∈ l
  | [], _, _, h => .inl h
  | x :: l, out, s, h => by
    unfold keepLeast at h
    rcases mem_keepLeast l _ s h with h | h
    · by_cases hx : (out.any fun t => subI t x) = true
      · rw [if_pos hx] at h; exact .inl h
      · rw [if_neg hx] at h
        rcases List.mem_append.1 h with h | h
        · exact .inl h
        · rw [List.mem_singleton.1 h]; exact .inr (by simp)
    · exact .inr (by simp [h])
theorem keep_out : ∀ (l out : List Int) (s : Int), s ∈ out → s ∈ keepLeast out l
  | [], _, _, h => h
  | x :: l, out, s, h => by
    unfold keepLeast
    refine keep_out l _ s ?_
    split
    · exact h
    · exact List.mem_append.2 (.inl h)
/-- Each element has one below it that is kept. -/
theorem keep_some : ∀ (l out : List Int) (s : Int), s ∈ l → ∃ t ∈ keepLeast out l, subI t s = true
  | x :: l, out, s, h => by
    unfold keepLeast
    rcases List.mem_cons.1 h with rfl | h
    · by_cases hx : (out.any fun t => subI t s) = true
      · rw [if_pos hx]
        obtain ⟨t, ht, hs⟩ := List.any_eq_true.1 hx
        exact ⟨t, keep_out _ _ _ ht, hs⟩
      · rw [if_neg hx]
        exact ⟨s, keep_out _ _ _ (by simp), by simp [subI]⟩
    · exact keep_some l _ s h
/-- What is kept has nothing kept ahead of it below it. -/
theorem keep_sorted : ∀ (l out : List Int), (out ++ l).Pairwise (fun x y => ¬ before y x) → out.Pairwise (fun x y => before x y ∧ subI x y = false) → (∀ x ∈ l, isSet x = true) → (∀ x ∈ out, isSet x = true) →
    (keepLeast out l).Pairwise (fun x y => before x y ∧ subI x y = false)
  | [], _, _, h, _, _ => h
  | x :: l, out, hs, h, hl, ho => by
    unfold keepLeast
    have hs' : (out ++ l).Pairwise (fun x y => ¬ before y x) := by
      rw [List.pairwise_append] at hs ⊢
      exact ⟨hs.1, (List.pairwise_cons.1 hs.2.1).2, fun a ha b hb => hs.2.2 a ha b (by simp [hb])⟩
    by_cases hx : (out.any fun t => subI t x) = true
    · rw [if_pos hx]; exact keep_sorted l out hs' h (fun y hy => hl y (by simp [hy])) ho
    · rw [if_neg hx]
      refine keep_sorted l (out ++ [x]) (by simpa using hs) ?_ (fun y hy => hl y (by simp [hy])) ?_
      · rw [List.pairwise_append]
        refine ⟨h, by simp, fun a ha b hb => ?_⟩
        rw [List.mem_singleton.1 hb]
        have hn : subI a x = false := by
          cases hz : subI a x with
          | false => rfl
          | true => exact absurd (List.any_eq_true.2 ⟨a, ha, hz⟩) hx
        have hnb := (List.pairwise_append.1 hs).2.2 a ha x (by simp)
        rcases before_total a x with hb | rfl | hb
        · exact ⟨hb, hn⟩
        · simp [subI] at hn
        · exact absurd hb hnb
      · intro y hy
        rcases List.mem_append.1 hy with hy | hy
        · exact ho y hy
        · rw [List.mem_singleton.1 hy]; exact hl x (by simp)
/-- A subset is no greater: it comes first, or is the set. -/
theorem sub_before {t s : Int} (ht : isSet t = true) (hs : isSet s = true) (h : subI t s = true) : before t s ∨ t = s := by
  obtain ⟨a, rfl, ha⟩ := isSet_nat ht
  obtain ⟨b, rfl, hb⟩ := isSet_nat hs
  simp only [subI, Int.toNat_natCast, beq_iff_eq] at h
  have hle : popc a ≤ popc b := by
    rw [popc_bits ⟨a, ha⟩, popc_bits ⟨b, hb⟩]
    rw [← List.countP_eq_length_filter, ← List.countP_eq_length_filter]
    refine List.countP_mono_left fun k _ hk => ?_
    have hk' : a.testBit k = true := hk
    rw [← h, Nat.testBit_and] at hk'
    simp at hk'
    exact hk'.2
  have hab : a ≤ b := by rw [← h]; exact Nat.and_le_right
  have ra : rankI (a : Int) = popc a := by unfold rankI; rw [if_pos ht]; rfl
  have rb : rankI (b : Int) = popc b := by unfold rankI; rw [if_pos hs]; rfl
  unfold before
  rw [ra, rb]
  omega
theorem leastL_sorted (l : List Int) : (leastL l).Pairwise (fun x y => before x y ∧ subI x y = false) := by
  refine keep_sorted _ [] (by simpa using sortSets_sorted _) (by simp) (fun x hx => ?_) (by simp)
  exact (List.mem_filter.1 ((sortSets_perm _).mem_iff.1 hx)).2
theorem mem_leastL {l : List Int} {s : Int} : s ∈ leastL l ↔ s ∈ l ∧ isSet s = true ∧ ∀ t ∈ l, isSet t = true → subI t s = true → t = s := by
  have hmem : ∀ x, x ∈ sortSets (l.filter isSet) ↔ x ∈ l ∧ isSet x = true := fun x => by
    rw [(sortSets_perm _).mem_iff, List.mem_filter]
  constructor
  · intro h
    have h1 : s ∈ l ∧ isSet s = true := by
      rcases mem_keepLeast _ _ _ h with h | h
      · simp at h
      · exact (hmem s).1 h
    refine ⟨h1.1, h1.2, fun t ht hts hsub => ?_⟩
    obtain ⟨u, hu, hut⟩ := keep_some (sortSets (l.filter isSet)) [] t ((hmem t).2 ⟨ht, hts⟩)
    have hu1 : isSet u = true := by
      rcases mem_keepLeast _ _ _ hu with h | h
      · simp at h
      · exact ((hmem u).1 h).2
    have hus : subI u s = true := by
      simp only [subI, beq_iff_eq] at *
      rw [← hut, Nat.and_assoc, hsub]
    have heq : u = s := by
      have hp := leastL_sorted l
      apply Classical.byContradiction
      intro hne
      obtain ⟨i, hi, rfl⟩ := List.getElem_of_mem hu
      obtain ⟨j, hj, rfl⟩ := List.getElem_of_mem h
      have hpw := List.pairwise_iff_getElem.1 hp
      rcases Nat.lt_trichotomy i j with hij | rfl | hij
      · have h0 := (hpw i j hi hj hij).2; exact absurd (h0.symm.trans hus) (by simp)
      · exact hne rfl
      · have hb := (hpw j i hj hi hij).1
        rcases sub_before hu1 h1.2 hus with hb' | he
        · exact before_irrefl _ (before_trans hb hb')
        · exact hne he
    subst heq
    rcases sub_before hu1 hts hut with hb | he
    · rcases sub_before hts h1.2 hsub with hb' | he
      · exact absurd (before_trans hb hb') (before_irrefl _)
      · exact he
    · exact he.symm
  · rintro ⟨h1, h2, h3⟩
    obtain ⟨u, hu, hus⟩ := keep_some (sortSets (l.filter isSet)) [] s ((hmem s).2 ⟨h1, h2⟩)
    have hu' : u ∈ l ∧ isSet u = true := by
      rcases mem_keepLeast _ _ _ hu with h | h
      · simp at h
      · exact (hmem u).1 h
    have := h3 u hu'.1 hu'.2 hus
    rw [← this]; exact hu
/-- Two strictly sorted lists with the same elements are one. -/
theorem sorted_ext : ∀ {l m : List Int}, l.Pairwise before → m.Pairwise before → (∀ x, x ∈ l ↔ x ∈ m) → l = m
  | [], [], _, _, _ => rfl
  | [], y :: m, _, _, h => by have := (h y).2 (by simp); simp at this
  | x :: l, [], _, _, h => by have := (h x).1 (by simp); simp at this
  | x :: l, y :: m, hl, hm, h => by
    have hl' := List.pairwise_cons.1 hl
    have hm' := List.pairwise_cons.1 hm
    have hxy : x = y := by
      rcases List.mem_cons.1 ((h x).1 (by simp)) with he | hx
      · exact he
      · rcases List.mem_cons.1 ((h y).2 (by simp)) with he | hy
        · exact he.symm
        · exact absurd (before_trans (hl'.1 y hy) (hm'.1 x hx)) (before_irrefl _)
    subst hxy
    congr 1
    refine sorted_ext hl'.2 hm'.2 (fun z => ?_)
    constructor
    · intro hz
      rcases List.mem_cons.1 ((h z).1 (by simp [hz])) with rfl | hz'
      · exact absurd (hl'.1 z hz) (before_irrefl _)
      · exact hz'
    · intro hz
      rcases List.mem_cons.1 ((h z).2 (by simp [hz])) with rfl | hz'
      · exact absurd (hm'.1 z hz) (before_irrefl _)
      · exact hz'
theorem leastL_eq {l m : List Int} (hm : m.Pairwise before) (h : ∀ x, x ∈ leastL l ↔ x ∈ m) : leastL l = m :=
  sorted_ext ((leastL_sorted l).imp fun h => h.1) hm h
end Go.Proofs.YtfkpimjiaijmgaaDoorV
end
section
namespace Go.Proofs.YtfkpimjiaijmgaaDoor.Q
open Go.RowKit Go.Proofs.YtfkpimjiaijmgaaDoor.G Go.Proofs.YtfkpimjiaijmgaaDoorW.PrintWords Go.Proofs.YtfkpimjiaijmgaaDoorW.PrintLast Go.Proofs.YtfkpimjiaijmgaaDoorW.PrintMore Go.Proofs.YtfkpimjiaijmgaaDoorV
set_option linter.unusedVariables false
theorem wrap_of {x : Int} (h0 : -9223372036854775808 ≤ x) (h1 : x ≤ 9223372036854775807) : wrap64 x = x := by unfold wrap64; omega
end Go.Proofs.YtfkpimjiaijmgaaDoor.Q
end
section
namespace Go.Proofs.YtfkpimjiaijmgaaDoor.Q
open Go.RowKit Go.Proofs.YtfkpimjiaijmgaaDoor.G Go.Proofs.YtfkpimjiaijmgaaDoorW.PrintWords Go.Proofs.YtfkpimjiaijmgaaDoorW.PrintLast Go.Proofs.YtfkpimjiaijmgaaDoorW.PrintMore Go.Proofs.YtfkpimjiaijmgaaDoorV
set_option linter.unusedVariables false
set_option maxRecDepth 100000
set_option linter.unusedSimpArgs false
theorem rvalid_eq (x : Int) : trustquorumref01_Valid.f x = some (isSet x) := by
  unfold trustquorumref01_Valid.f isSet
  by_cases h : 0 ≤ x
  · simp [h, ge_iff_le]; omega
  · simp [h, ge_iff_le]
theorem rbit {n : Nat} (hn : n < 1024) (i : Nat) (hi : i < 10) : Go.bits .and .i64 (shr .i64 (n : Int) (i : Int)) 1 = ((n / 2 ^ i % 2 : Nat) : Int) := by
  have h1 : shr .i64 (n : Int) (i : Int) = ((n / 2 ^ i : Nat) : Int) := by
    unfold shr
    rw [Int.toNat_natCast, Nat.min_eq_left (show i ≤ IntKind.i64.bits by show i ≤ 64; omega), Int.natCast_ediv, Int.natCast_pow]; rfl
  have h2 : n / 2 ^ i ≤ n := Nat.div_le_self _ _
  rw [h1, show (1 : Int) = ((1 : Nat) : Int) from rfl, i64_and_nat _ _ (by omega) (by omega), Nat.and_one_is_mod]
theorem rsize_l {n : Nat} (hn : n < 1024) : ∀ (d i k : Nat) (c : Nat), i + d = 10 → d < k → c ≤ i → trustquorumref01_Size.l0 k (n : Int) (c : Int) (i : Int) = some ((c + ((List.range d).map fun j => n / 2 ^ (i + j) % 2).sum : Nat) : Int)
  | 0, i, k + 1, c, hi, hk, hc => by
    simp only [trustquorumref01_Size.l0]
    rw [if_neg (by omega)]; simp
  | d + 1, i, k + 1, c, hi, hk, hc => by
    have hv : isSet (n : Int) = true := by simp [isSet]; omega
    have hm := Nat.mod_lt (n / 2 ^ i) (show 2 > 0 by omega)
    have w1 : wrap64 ((i : Int) + 1) = ((i + 1 : Nat) : Int) := by unfold wrap64; omega
    have w2 : wrap64 ((c : Int) + ((n / 2 ^ i % 2 : Nat) : Int)) = ((c + n / 2 ^ i % 2 : Nat) : Int) := by unfold wrap64; omega
    simp only [trustquorumref01_Size.l0]
    rw [if_pos (by omega), rvalid_eq, hv]
    simp only [Option.bind_some, if_true]
    rw [if_pos (by omega), rbit hn i (by omega), w1, w2, rsize_l hn d (i + 1) k _ (by omega) (by omega) (by omega)]
    congr 2
    rw [List.range_succ_eq_map, List.map_cons, List.sum_cons, List.map_map, Nat.add_zero, Nat.add_assoc]
    congr 4
    funext j
    simp [Nat.add_assoc, Nat.add_comm 1]
theorem rsize_eq {n : Nat} (hn : n < 1024) (k : Nat) (hk : 10 < k) : trustquorumref01_Size.f k (n : Int) = some (popc n : Int) := by
  have := rsize_l hn 10 0 k 0 rfl hk (by omega)
  unfold trustquorumref01_Size.f
  refine this.trans ?_
  simp [popc, List.range, List.range.loop]
  omega
theorem rcmp_eq {a b : Int} (ha : isSet a = true) (hb : isSet b = true) : trustquorumref01_Compare.f 15 a b = some (cmpI a b) := by
  obtain ⟨n, rfl, hn⟩ := isSet_nat ha
  obtain ⟨m, rfl, hm⟩ := isSet_nat hb
  have e1 := rsize_eq hn 15 (by omega)
  have e2 := rsize_eq hm 14 (by omega)
  unfold trustquorumref01_Compare.f
  rw [rvalid_eq, ha]
  simp only [Option.bind_some, if_true, e1, trustquorumref01_Compare.j0, rvalid_eq, hb, e2, trustquorumref01_Compare.j1, trustquorumref01_Compare.j2]
  unfold cmpI rankI
  rw [ha, hb]
  simp only [if_true, Int.toNat_natCast]
  generalize (popc n : Int) = p
  generalize (popc m : Int) = q
  generalize (n : Int) = a
  generalize (m : Int) = b
  unfold sgn
  rcases Int.lt_trichotomy p q with h | h | h
  · simp [h]
  · subst h
    rcases Int.lt_trichotomy a b with k | k | k
    · simp [k]
    · subst k; simp
    · simp [show ¬ a < b by omega, show ¬ a = b by omega, k]
  · simp [show ¬ p < q by omega, show ¬ p = q by omega, h, show ¬ q = p by omega]
end Go.Proofs.YtfkpimjiaijmgaaDoor.Q
end
section
namespace Go.Proofs.YtfkpimjiaijmgaaDoor.Q
open Go.RowKit Go.Proofs.YtfkpimjiaijmgaaDoor.G Go.Proofs.YtfkpimjiaijmgaaDoorW.PrintWords Go.Proofs.YtfkpimjiaijmgaaDoorW.PrintLast Go.Proofs.YtfkpimjiaijmgaaDoorW.PrintMore Go.Proofs.YtfkpimjiaijmgaaDoorV
set_option linter.unusedVariables false
theorem below_eq (x : Int) (n : Nat) (hn : n ≤ 10) : nodeset_below.f x n = some (decide (0 ≤ x) && decide (x < 2 ^ n)) := by
  have e : shl .i64 1 n = 2 ^ n := (by decide +kernel : ∀ m : Fin 11, shl .i64 1 (m.1 : Int) = 2 ^ m.1) ⟨n, by omega⟩
  unfold nodeset_below.f
  rw [e]
  by_cases h : 0 ≤ x <;> simp [h, ge_iff_le]
theorem pow_le_1024 (n : Nat) (hn : n ≤ 10) : 2 ^ n ≤ 1024 := (by decide : ∀ m : Fin 11, 2 ^ m.1 ≤ 1024) ⟨n, by omega⟩
theorem size_eqN (s : Nat) (h : s < 1024) : nodeset_Size.f (s : Int) = some (popc s : Int) := by
  have := size_eq (s : Int) (by simp [isSet]; omega)
  simpa using this
theorem next_loop (n : Nat) (hn : n ≤ 10) (size : Nat) (hs : size ≤ n) : ∀ (d k t : Nat), t + d = 2 ^ n → d < k → ∀ d', d ≤ d' →
    nodeset_Next.l0 k n size t = some (match seek n size d' t with | some u => ((u : Int), true) | none => if size = n then (0, false) else (((2 ^ (size + 1) - 1 : Nat) : Int), true))
  | 0, k + 1, t, ht, _, d', _ => by
    have hp := pow_le_1024 n hn
    have e : seek n size d' t = none := by cases d' <;> simp [seek]; omega
    simp only [nodeset_Next.l0, e]
    rw [below_eq _ n hn]
    have e2 : (decide (0 ≤ (t : Int)) && decide ((t : Int) < 2 ^ n)) = false := by
      have : ¬ ((t : Int) < 2 ^ n) := by have : ((2 ^ n : Nat) : Int) = 2 ^ n := by simp
                                         omega
      simp [this]
    rw [e2]
    simp only [Option.bind_some, Bool.false_eq_true, if_false]
    by_cases h : size = n
    · simp [h]
    · have hne : ¬ ((size : Int) = n) := by omega
      have w1 : wrap64 ((size : Int) + 1) = ((size + 1 : Nat) : Int) := by unfold wrap64; omega
      have e3 : shl .i64 1 ((size + 1 : Nat) : Int) = ((2 ^ (size + 1) : Nat) : Int) := (by decide +kernel : ∀ m : Fin 12, shl .i64 1 (m.1 : Int) = ((2 ^ m.1 : Nat) : Int)) ⟨size + 1, by omega⟩
      have hp2 : 1 ≤ 2 ^ (size + 1) ∧ 2 ^ (size + 1) ≤ 1024 := ⟨Nat.one_le_two_pow, pow_le_1024 _ (by omega)⟩
      rw [if_neg hne, if_neg h, w1, e3, if_pos (by omega)]
      have : wrap64 (((2 ^ (size + 1) : Nat) : Int) - 1) = ((2 ^ (size + 1) - 1 : Nat) : Int) := by unfold wrap64; omega
      rw [this]
  | d + 1, k + 1, t, ht, hk, d' + 1, hd => by
    have hp := pow_le_1024 n hn
    have ht' : t < 2 ^ n := by omega
    simp only [nodeset_Next.l0, seek, if_pos ht']
    rw [below_eq _ n hn]
    have e2 : (decide (0 ≤ (t : Int)) && decide ((t : Int) < 2 ^ n)) = true := by
      have : ((t : Int) < 2 ^ n) := by have : ((2 ^ n : Nat) : Int) = 2 ^ n := by simp
                                       omega
      simp [this]
    rw [e2]
    simp only [Option.bind_some, if_true]
    rw [size_eqN t (by omega)]
    simp only [Option.bind_some]
    by_cases h : popc t = size
    · simp [h]
    · have hne : ¬ ((popc t : Int) = size) := by omega
      rw [if_neg hne, if_neg h]
      have w1 : wrap64 ((t : Int) + 1) = ((t + 1 : Nat) : Int) := by unfold wrap64; omega
      rw [w1]
      exact next_loop n hn size hs d k (t + 1) (by omega) (by omega) d' (by omega)
theorem next_eq (k n : Nat) (hk : 1026 ≤ k) (hn : n ≤ 10) (s : Nat) (hs : s < 2 ^ n) (hsz : popc s ≤ n) :
    nodeset_Next.f k s n = some (match nextN n s with | some u => ((u : Int), true) | none => (0, false)) := by
  have hp := pow_le_1024 n hn
  obtain ⟨k, rfl⟩ : ∃ m, k = m + 1 := ⟨k - 1, by omega⟩
  have e2 : (decide (0 ≤ (s : Int)) && decide ((s : Int) < 2 ^ n)) = true := by
    have : ((s : Int) < 2 ^ n) := by have : ((2 ^ n : Nat) : Int) = 2 ^ n := by simp
                                     omega
    simp [this]
  have w1 : wrap64 ((s : Int) + 1) = ((s + 1 : Nat) : Int) := by unfold wrap64; omega
  have hl := next_loop n hn (popc s) hsz (2 ^ n - (s + 1)) k (s + 1) (by omega) (by omega) 1024 (by omega)
  unfold nodeset_Next.f
  rw [if_neg (by omega), if_neg (by omega), below_eq _ n hn, e2]
  simp only [Option.bind_some, Bool.not_true, nodeset_Next.j0, Bool.false_eq_true, if_false]
  rw [size_eqN s (by omega)]
  simp only [Option.bind_some]
  rw [w1, hl]
  unfold nextN
  generalize seek n (popc s) 1024 (s + 1) = z
  cases z with
  | some u => rfl
  | none => by_cases h : popc s = n <;> simp [h]
end Go.Proofs.YtfkpimjiaijmgaaDoor.Q
end
section
namespace Go.Proofs.YtfkpimjiaijmgaaDoor.Q
open Go.RowKit Go.Proofs.YtfkpimjiaijmgaaDoor.G Go.Proofs.YtfkpimjiaijmgaaDoorW.PrintWords Go.Proofs.YtfkpimjiaijmgaaDoorW.PrintLast Go.Proofs.YtfkpimjiaijmgaaDoorW.PrintMore Go.Proofs.YtfkpimjiaijmgaaDoorV
set_option linter.unusedVariables false
theorem refcompare_ev {a b : Int} (ha : isSet a = true) (hb : isSet b = true) : Ev (fun k => trustquorumref01_Compare.f k a b) (cmpI a b) :=
  Ev.of (fun k => trustquorumref01_Compare.mono a b k) (rcmp_eq ha hb)
theorem next_ev {n s : Nat} (hn : n ≤ 10) (hs : s < 2 ^ n) (hp : popc s ≤ n) : Ev (fun k => nodeset_Next.f k s n) (match nextN n s with | some u => ((u : Int), true) | none => (0, false)) := ⟨1026, fun k hk => next_eq k n hk hn s hs hp⟩
/-- Are these the least sets of a list? -/
def leastP (l : List Int) (x : Int) : Bool := l.contains x && (isSet x && l.all fun t => !isSet t || (!subI t x || t == x))
def checkL (l m : List Int) : Bool := decide (m.Pairwise before) && (m.all (leastP l) && l.all fun x => !leastP l x || m.contains x)
theorem leastP_iff {l : List Int} {x : Int} : leastP l x = true ↔ x ∈ leastL l := by
  rw [mem_leastL]
  unfold leastP
  simp only [Bool.and_eq_true, List.all_eq_true, List.contains_iff_mem, Bool.or_eq_true, Bool.not_eq_true', beq_iff_eq]
  constructor
  · rintro ⟨h1, h2, h3⟩
    refine ⟨h1, h2, fun t ht hs hu => ?_⟩
    rcases h3 t ht with h | h | h
    · rw [hs] at h; cases h
    · rw [hu] at h; cases h
    · exact h
  · rintro ⟨h1, h2, h3⟩
    refine ⟨h1, h2, fun t ht => ?_⟩
    cases hs : isSet t with
    | false => exact .inl rfl
    | true =>
      cases hu : subI t x with
      | false => exact .inr (.inl rfl)
      | true => exact .inr (.inr (h3 t ht hs hu))
theorem checkL_eq {l m : List Int} (h : checkL l m = true) : leastL l = m := by
  unfold checkL at h
  simp only [Bool.and_eq_true, decide_eq_true_eq, List.all_eq_true] at h
  refine leastL_eq h.1 fun x => ?_
  constructor
  · intro hx
    have := h.2.2 x (mem_leastL.1 hx).1
    rw [leastP_iff.2 hx] at this
    simpa using this
  · intro hx
    exact leastP_iff.1 (h.2.1 x hx)
theorem meeting_ex : nodeset_Meeting.f [3, 6] 3 = some ([2, 5], 0) := by
  have e1 : leastL [3, 6] = [3, 6] := checkL_eq (by decide +kernel)
  have e2 : meetG [3, 6] (2 ^ (3 : Int).toNat) 0 [] = [2, 3, 5, 6, 7] := by decide +kernel
  have e3 : leastL [2, 3, 5, 6, 7] = [2, 5] := checkL_eq (by decide +kernel)
  unfold nodeset_Meeting.f
  rw [if_neg (by decide), if_neg (by decide), if_neg (by decide +kernel), if_neg (by decide), e1, e2, e3]
theorem text_ex : nodeset_Text.f 30 37 = some ⟨#[123, 48, 32, 50, 32, 53, 125]⟩ := by decide +kernel
theorem ints_ex : trustquorummake_Ints.f 5 [2, 5] [2, 5] = some true := by decide +kernel
theorem awake_ev : Ev (fun k => trustquorumlaw01_awake.f k) true := by
  have h1 := next_ev (n := 6) (s := 37) (by omega) (by omega) (by decide)
  have e1 : nextN 6 37 = some 38 := by decide +kernel
  rw [e1] at h1
  have h2 : Ev (fun k => nodeset_Text.f k 37) ⟨#[123, 48, 32, 50, 32, 53, 125]⟩ := Ev.of (fun k => nodeset_Text.mono 37 k) text_ex
  have h3 : Ev (fun k => trustquorummake_Ints.f k [2, 5] [2, 5]) true := Ev.of (fun k => trustquorummake_Ints.mono [2, 5] [2, 5] k) ints_ex
  refine Ev.congr (fun k => by unfold trustquorumlaw01_awake.f; rfl) (Ev.bind h1 ?_)
  refine Ev.congr (fun k => by rw [meeting_ex]; simp only [Option.bind_some, if_true]; rw [if_pos (show ((38 : Nat) : Int) = 38 from rfl)]) (Ev.bind h2 ?_)
  refine Ev.congr (fun k => by rw [if_pos (by decide +kernel)]) (Ev.bind h3 (Ev.now _))
theorem set_nat {n : Nat} (h : n < 1024) : isSet (n : Int) = true := by simp [isSet]; omega
theorem rdg {l : List Int} {i : Nat} (h : i < l.length) : rd l (i : Int) = l[i] := by
  unfold rd; rw [List.getD_eq_getElem?_getD, Int.toNat_natCast, List.getElem?_eq_getElem h]; rfl
theorem upi {i : Nat} (h : i ≤ 4611686018427387904) : wrap64 ((i : Int) + 1) = ((i + 1 : Nat) : Int) := by rw [wrap_of (by omega) (by omega)]; omega
theorem shl_pow {n : Nat} (h : n ≤ 10) : shl .i64 1 (n : Int) = ((2 ^ n : Nat) : Int) := (by decide +kernel : ∀ m : Fin 11, shl .i64 1 (m.1 : Int) = ((2 ^ m.1 : Nat) : Int)) ⟨n, by omega⟩
theorem sgn_lt {a b : Int} (h : a < b) : sgn a b = -1 := by unfold sgn; rw [if_pos h]
theorem sgn_eq (a : Int) : sgn a a = 0 := by unfold sgn; rw [if_neg (by omega), if_neg (by omega)]
theorem cmp_before {a b : Int} (h : before a b) : cmpI a b = -1 := by
  unfold cmpI
  rcases h with h | ⟨h, h'⟩
  · rw [sgn_lt h, if_neg (by decide)]
  · rw [h, sgn_eq, if_pos rfl, sgn_lt h']
theorem and_subI {a b : Int} (ha : isSet a = true) (hb : isSet b = true) : (Go.bits .and .i64 a b = a) ↔ subI a b = true := by
  obtain ⟨n, rfl, hn⟩ := isSet_nat ha
  obtain ⟨m, rfl, hm⟩ := isSet_nat hb
  rw [i64_and_nat n m (by omega) (by omega)]
  unfold subI
  simp only [Int.toNat_natCast, beq_iff_eq]
  omega
end Go.Proofs.YtfkpimjiaijmgaaDoor.Q
end
section
namespace Go.Proofs.YtfkpimjiaijmgaaDoor.Q
open Go.RowKit Go.Proofs.YtfkpimjiaijmgaaDoor.G Go.Proofs.YtfkpimjiaijmgaaDoorW.PrintWords Go.Proofs.YtfkpimjiaijmgaaDoorW.PrintLast Go.Proofs.YtfkpimjiaijmgaaDoorW.PrintMore Go.Proofs.YtfkpimjiaijmgaaDoorV
set_option linter.unusedVariables false
theorem subsG_eq (s : Nat) : ∀ (d i : Nat) (out : List Int), subsG s d i out = out ++ ((List.range' i d).filter fun (t : Nat) => subG (t : Int) (s : Int)).map fun (t : Nat) => (t : Int)
  | 0, i, out => by simp [subsG]
  | d + 1, i, out => by
    unfold subsG
    rw [subsG_eq s d (i + 1), List.range'_succ, List.filter_cons]
    split
    · simp
    · simp
theorem countP_two (p : Nat → Bool) : ∀ n : Nat, (List.range (2 * n)).countP p = (List.range n).countP (fun u => p (2 * u)) + (List.range n).countP (fun u => p (2 * u + 1))
  | 0 => by simp
  | n + 1 => by
    rw [show 2 * (n + 1) = 2 * n + 1 + 1 by omega, List.range_succ, List.range_succ, List.range_succ]
    simp only [List.countP_append, List.countP_singleton]
    rw [countP_two p n]
    omega
theorem even_sub (u s : Nat) : ((2 * u) &&& s == 2 * u) = (u &&& (s / 2) == u) := by
  rw [Bool.eq_iff_iff]; simp only [beq_iff_eq]
  constructor
  · intro h
    have h2 := congrArg (fun z => z / 2) h
    simp only [Nat.and_div_two] at h2
    rwa [Nat.mul_div_cancel_left u (by omega)] at h2
  · intro h
    apply Nat.eq_of_testBit_eq
    intro i
    cases i with
    | zero => rw [Nat.testBit_and]; simp [Nat.testBit_zero]
    | succ i =>
      have h2 := congrArg (fun z => z.testBit i) h
      simp only [Nat.testBit_and] at h2
      rw [Nat.testBit_and, Nat.testBit_succ, Nat.testBit_succ, Nat.mul_div_cancel_left u (by omega)]
      exact h2
theorem odd_sub (u s : Nat) : ((2 * u + 1) &&& s == 2 * u + 1) = (decide (s % 2 = 1) && (u &&& (s / 2) == u)) := by
  have hd : (2 * u + 1) / 2 = u := by omega
  rw [Bool.eq_iff_iff]; simp only [beq_iff_eq, Bool.and_eq_true, decide_eq_true_eq]
  constructor
  · intro h
    have h2 := congrArg (fun z => z / 2) h
    simp only [Nat.and_div_two, hd] at h2
    have h3 : ((2 * u + 1) &&& s).testBit 0 = (2 * u + 1).testBit 0 := by rw [h]
    rw [Nat.testBit_and, Nat.testBit_zero, Nat.testBit_zero] at h3
    refine ⟨?_, h2⟩
    simpa using h3
  · rintro ⟨h1, h⟩
    apply Nat.eq_of_testBit_eq
    intro i
    cases i with
    | zero => rw [Nat.testBit_and]; simp [Nat.testBit_zero, h1]
    | succ i =>
      have h2 := congrArg (fun z => z.testBit i) h
      simp only [Nat.testBit_and] at h2
      rw [Nat.testBit_and, Nat.testBit_succ, Nat.testBit_succ, hd]
      exact h2
def popK : Nat → Nat → Nat
  | 0, _ => 0
  | k + 1, s => s % 2 + popK k (s / 2)
theorem subC_pow : ∀ (k s : Nat), (List.range (2 ^ k)).countP (fun t => t &&& s == t) = 2 ^ popK k s
  | 0, s => by simp [popK]
  | k + 1, s => by
    rw [Nat.pow_succ, Nat.mul_comm, countP_two]
    simp only [even_sub, odd_sub]
    have ih := subC_pow k (s / 2)
    rw [ih, popK]
    rcases Nat.mod_two_eq_zero_or_one s with h | h
    · rw [h]; simp
    · rw [h]
      simp only [decide_true, Bool.true_and]
      rw [ih, Nat.pow_add]; omega
theorem popK_popc {s : Nat} (h : s < 1024) : popK 10 s = popc s := (by decide +kernel : ∀ s : Fin 1024, popK 10 s.1 = popc s.1) ⟨s, h⟩
theorem subG_nat {t s : Nat} (ht : t < 9223372036854775808) (hs : s < 9223372036854775808) : subG (t : Int) (s : Int) = (t &&& s == t) := by
  unfold subG
  rw [Bool.eq_iff_iff]; simp only [decide_eq_true_eq, beq_iff_eq]
  exact andNot_zero t s ht hs
theorem subs_len {s : Nat} (hs : s < 1024) : (subsG s (s + 1) 0 []).length = 2 ^ popc s := by
  rw [subsG_eq, List.nil_append, List.length_map, ← List.countP_eq_length_filter, ← List.range_eq_range', ← popK_popc hs, ← subC_pow 10 s]
  have e : List.range 1024 = List.range (s + 1) ++ List.range' (s + 1) (1023 - s) := by
    have h := List.range'_append_1 (s := 0) (m := s + 1) (n := 1023 - s)
    rw [show s + 1 + (1023 - s) = 1024 by omega, Nat.zero_add] at h
    rw [List.range_eq_range', List.range_eq_range', h]
  rw [show (2 : Nat) ^ 10 = 1024 from rfl]
  rw [e, List.countP_append]
  have z : (List.range' (s + 1) (1023 - s)).countP (fun t => t &&& s == t) = 0 := List.countP_eq_zero.2 fun t ht => by
    have h1 := (List.mem_range'_1.1 ht).1
    have h2 : t &&& s ≤ s := Nat.and_le_right
    simp only [beq_iff_eq]; omega
  rw [z, Nat.add_zero]
  refine List.countP_congr fun t ht => ?_
  have := List.mem_range.1 ht
  rw [subG_nat (by omega) (by omega)]
def subsL (s : Nat) : List Int := sortSets (subsG s (s + 1) 0 [])
theorem mem_subs {s : Nat} (hs : s < 1024) {x : Int} : x ∈ subsL s ↔ ∃ t : Nat, x = (t : Int) ∧ t ≤ s ∧ t &&& s = t := by
  unfold subsL
  rw [(sortSets_perm _).mem_iff, subsG_eq, List.nil_append, List.mem_map]
  constructor
  · rintro ⟨t, ht, rfl⟩
    rw [List.mem_filter, List.mem_range'_1] at ht
    refine ⟨t, rfl, by omega, ?_⟩
    have := ht.2
    rw [subG_nat (by omega) (by omega)] at this
    simpa using this
  · rintro ⟨t, rfl, ht, hu⟩
    refine ⟨t, ?_, rfl⟩
    rw [List.mem_filter, List.mem_range'_1, subG_nat (by omega) (by omega)]
    exact ⟨by omega, by simpa using hu⟩
theorem subs_len' {s : Nat} (hs : s < 1024) : (subsL s).length = 2 ^ popc s := by
  unfold subsL
  rw [(sortSets_perm _).length_eq, subs_len hs]
theorem subs_nodup (s : Nat) : (subsL s).Nodup := by
  unfold subsL
  rw [(sortSets_perm _).nodup_iff, subsG_eq, List.nil_append]
  refine List.Pairwise.map (R := fun a b : Nat => a ≠ b) _ (fun a b h e => h (by omega)) ?_
  exact List.Pairwise.filter _ List.nodup_range'
theorem subs_before (s : Nat) : (subsL s).Pairwise before := by
  have h1 : (subsL s).Pairwise (fun x y => ¬ before y x) := sortSets_sorted _
  have h2 : (subsL s).Pairwise (fun x y => x ≠ y) := subs_nodup s
  refine (h1.and h2).imp ?_
  rintro x y ⟨a, b⟩
  rcases before_total x y with h | h | h
  · exact h
  · exact absurd h b
  · exact absurd h a
theorem first_is {l : List Int} (hl : l.Pairwise before) {z : Int} (hz : z ∈ l) (h : ∀ x ∈ l, ¬ before x z) (h0 : 0 < l.length) : l[0] = z := by
  obtain ⟨i, hi, e⟩ := List.getElem_of_mem hz
  cases i with
  | zero => exact e
  | succ i =>
    have := List.pairwise_iff_getElem.1 hl 0 (i + 1) (by omega) hi (by omega)
    rw [e] at this
    exact absurd this (h _ (List.getElem_mem _))
theorem last_is {l : List Int} (hl : l.Pairwise before) {z : Int} (hz : z ∈ l) (h : ∀ x ∈ l, ¬ before z x) (h0 : l.length - 1 < l.length) : l[l.length - 1] = z := by
  obtain ⟨i, hi, e⟩ := List.getElem_of_mem hz
  rcases Nat.lt_or_ge i (l.length - 1) with hlt | hge
  · have := List.pairwise_iff_getElem.1 hl i (l.length - 1) hi h0 hlt
    rw [e] at this
    exact absurd this (h _ (List.getElem_mem _))
  · have : i = l.length - 1 := by omega
    subst this
    exact e
theorem ns_l0 {s : Nat} {L : List Int} (hL : L.Pairwise before) (hs : ∀ x ∈ L, isSet x = true ∧ Go.bits .and .i64 x (s : Int) = x) (hl : L.length ≤ 1024) : ∀ (d i : Nat), i + d = L.length → Ev (fun k => trustquorumlaw01_NodesetSubsets.l0 k s L L L.length i) true
  | 0, i, hi => by
    refine Ev.step (f := fun k => (trustquorumlaw01_awake.f k).bind fun t => some t) (fun k => ?_) (Ev.bind awake_ev (Ev.now _))
    simp only [trustquorumlaw01_NodesetSubsets.l0]; rw [if_neg (by omega)]
  | d + 1, i, hi => by
    have hlt : i < L.length := by omega
    have ih := ns_l0 hL hs hl d (i + 1) (by omega)
    have hx := hs L[i] (List.getElem_mem hlt)
    cases i with
    | zero =>
      refine Ev.step (fun k => ?_) ih
      simp only [trustquorumlaw01_NodesetSubsets.l0]
      rw [if_pos (by omega), if_pos (by omega), if_pos (by omega), rdg hlt, if_pos hx.2, if_neg (by omega), upi (by omega)]
    | succ j =>
      have hj : j < L.length := by omega
      have w : wrap64 (((j + 1 : Nat) : Int) - 1) = (j : Int) := by rw [wrap_of (by omega) (by omega)]; omega
      have hb := List.pairwise_iff_getElem.1 hL j (j + 1) hj hlt (by omega)
      have hr := refcompare_ev (hs L[j] (List.getElem_mem hj)).1 hx.1
      rw [cmp_before hb] at hr
      refine Ev.step (f := fun k => (trustquorumref01_Compare.f k L[j] L[j + 1]).bind fun c => if c ≥ 0 then some false else trustquorumlaw01_NodesetSubsets.l0 k s L L L.length ((j + 1 + 1 : Nat) : Int)) (fun k => ?_) (Ev.bind hr (Ev.congr (fun k => if_neg (by decide)) ih))
      simp only [trustquorumlaw01_NodesetSubsets.l0]
      rw [if_pos (by omega), if_pos (by omega), if_pos (by omega), rdg hlt, if_pos hx.2, if_pos (by omega), w, if_pos (by omega), if_pos (by omega), rdg hj, upi (by omega)]
theorem nodesetSubsets_true : trustquorumlaw01_NodesetSubsets.Pure := by
  intro a0 h
  have h' : 0 ≤ a0 ∧ a0 ≤ 65535 := by simpa [Go.Lit.wf, IntKind.min, IntKind.max, IntKind.signed, IntKind.bits] using h
  have e : ∃ n : Nat, Int.tmod (wrap64 a0) 1024 = (n : Int) ∧ n < 1024 := by
    rw [wrap_of (by omega) (by omega)]
    have t1 := Int.tmod_lt_of_pos a0 (show (0 : Int) < 1024 by omega)
    have t2 := Int.tmod_nonneg 1024 (show 0 ≤ a0 by omega)
    exact ⟨(Int.tmod a0 1024).toNat, by omega, by omega⟩
  obtain ⟨s, es, hs⟩ := e
  have hset := set_nat hs
  have e1 : nodeset_Subsets.f (s : Int) = some (subsL s) := by unfold nodeset_Subsets.f; rw [if_pos hset, Int.toNat_natCast]; rfl
  have e2 : nodeset_Size.f (s : Int) = some (popc s : Int) := by have := size_eq (s : Int) hset; simpa using this
  have e3 : Ev (fun k => trustquorumref01_Size.f k (s : Int)) (popc s : Int) := ⟨11, fun k hk => rsize_eq hs k (by omega)⟩
  have hp := popc_le s
  have hlen := subs_len' hs
  have hp2 := pow_le_1024 (popc s) hp
  have hp1 : 1 ≤ 2 ^ popc s := Nat.one_le_two_pow
  have hsub : ∀ x ∈ subsL s, isSet x = true ∧ subI x (s : Int) = true := fun x hx => by
    obtain ⟨t, rfl, h1, h2⟩ := (mem_subs hs).1 hx
    refine ⟨set_nat (by omega), ?_⟩
    unfold subI
    simpa using h2
  have hpw := subs_before s
  have hz : (0 : Int) ∈ subsL s := (mem_subs hs).2 ⟨0, rfl, by omega, by simp⟩
  have hm : (s : Int) ∈ subsL s := (mem_subs hs).2 ⟨s, rfl, by omega, by simp⟩
  have f0 := first_is hpw hz (fun x hx hb => by
    have h0 : subI 0 x = true := by unfold subI; simp
    rcases sub_before (by decide) (hsub x hx).1 h0 with h | h
    · exact before_irrefl _ (before_trans hb h)
    · subst h; exact before_irrefl _ hb) (by omega)
  have fl := last_is hpw hm (fun x hx hb => by
    rcases sub_before (hsub x hx).1 hset (hsub x hx).2 with h | h
    · exact before_irrefl _ (before_trans hb h)
    · rw [h] at hb; exact before_irrefl _ hb) (by omega)
  have hmain := ns_l0 (s := s) hpw (fun x hx => ⟨(hsub x hx).1, (and_subI (hsub x hx).1 hset).2 (hsub x hx).2⟩) (by omega) (subsL s).length 0 (by omega)
  have w : wrap64 (((subsL s).length : Int) - 1) = (((subsL s).length - 1 : Nat) : Int) := by rw [wrap_of (by omega) (by omega)]; omega
  have r0 : rd (subsL s) 0 = 0 := (rdg (l := subsL s) (i := 0) (by omega)).trans f0
  have rl : rd (subsL s) (((subsL s).length - 1 : Nat) : Int) = (s : Int) := (rdg (by omega)).trans fl
  refine Ev.rounds (g := fun k => trustquorumlaw01_NodesetSubsets.f k a0) ?_
  refine Ev.congr (f := fun k => (trustquorumref01_Size.f k (s : Int)).bind fun t => if (popc s : Int) = t then (trustquorumref01_Size.f k (s : Int)).bind fun u => if 0 ≤ u then (if ((subsL s).length : Int) = shl .i64 1 u then trustquorumlaw01_NodesetSubsets.j0 k s (subsL s) false else trustquorumlaw01_NodesetSubsets.j0 k s (subsL s) true) else none else trustquorumlaw01_NodesetSubsets.j0 k s (subsL s) true) (fun k => ?_)
    (Ev.bind e3 (Ev.congr (fun k => if_pos rfl) (Ev.bind e3 (Ev.congr (f := fun k => trustquorumlaw01_NodesetSubsets.j0 k s (subsL s) false) (fun k => ?_) (Ev.step (fun k => by simp only [trustquorumlaw01_NodesetSubsets.j0]; rfl) hmain)))))
  · unfold trustquorumlaw01_NodesetSubsets.f
    rw [es, e1, e2]
    simp only [Option.bind_some]
    rw [w, if_pos (show (0 : Int) < ((subsL s).length : Int) by omega), r0, if_pos rfl, if_pos (show (0 : Int) ≤ (((subsL s).length - 1 : Nat) : Int) by omega), if_pos (show (((subsL s).length - 1 : Nat) : Int) < ((subsL s).length : Int) by omega), rl]
    simp
  · rw [if_pos (by omega), shl_pow hp, if_pos (by omega)]
end Go.Proofs.YtfkpimjiaijmgaaDoor.Q
end
section
namespace Go.Proofs.YtfkpimjiaijmgaaDoor.Pure
open Go.RowKit Go.Proofs.YtfkpimjiaijmgaaDoor.G Go.Proofs.YtfkpimjiaijmgaaDoorW.PrintWords Go.Proofs.YtfkpimjiaijmgaaDoorW.PrintLast
/-- YOURS: ∀ (a0 : Int), (Lit.int .u16 a0).wf = true → ∃ k, trustquorumlaw01_NodesetSubsets.f k a0 = some true
What it reaches (each with k first where it has rounds; `.mono`: more rounds tell the same; `.l0`, ..: its loops, with `.mono_l`): nodeset_below.f, nodeset_Valid.f, bits_OnesCount64.f, bits_OnesCount.f, nodeset_Size.f, nodeset_Next.f, cmp_Or_int.f, cmp_isNaN_int.f, cmp_Compare_int.f, nodeset_rank.f, nodeset_Compare.f, trustquorumref01_Valid.f, trustquorumref01_Size.f, trustquorumref01_Compare.f, nodeset_Least.f, nodeset_Meeting.f, trustquorummake_Ints.f, nodeset_Has.f, nodeset_Nodes.f, strconv_Itoa.f, strings_Join.f, nodeset_Text.f, trustquorumlaw01_awake.f, nodeset_Subsets.f, trustquorumlaw01_NodesetSubsets.f -/
theorem NodesetSubsets : trustquorumlaw01_NodesetSubsets.Pure := Q.nodesetSubsets_true
end Go.Proofs.YtfkpimjiaijmgaaDoor.Pure
end
section
namespace Go.Proofs.YtfkpimjiaijmgaaDoor.nodesetSubsets
open Go.ChangeShapes Go.WideShapes Go.ChangeAt Go.RowKit
open Go.ChangeMaps (open_string shut_string)
set_option linter.unusedVariables false
theorem own : ownKnob Tryd.prog.godebug = none := by kernel_rfl
/-- The door's own heap meets the condition: three closed facts. -/
theorem door_met (os : Os) (args : Array Value) : laidMetH Tryd.prog Rows.nodesetSubsetsRow.laid ((World.doorLaid Tryd.prog 400 os).forCall (fun _ _ => 0) ⟨#[], args, []⟩).memory :=
  laidMetH_of_parts3 (fuel := 8) (laidMet_of_run' 8 (by kernel_rfl) (by kernel_rfl)) (by kernel_rfl) (by kernel_rfl)
set_option maxRecDepth 100000 in
theorem lifted (os : Os) (started : os.Started) (H : Type) (enc : TypeId × Value → H) :
    ReturnsInHanded {} Tryd.checked os 6 .any (fun w args => (Rows.nodesetSubsetsSpec.pre enc Tryd.prog Tryd.f6 [] false w args ∧ laidMetH Tryd.prog Rows.nodesetSubsetsRow.laid w) ∧ sizedMet enc Tryd.prog Tryd.f6 (OpenSpec.ofChange Rows.nodesetSubsetsSpec) false w args) (Rows.nodesetSubsetsSpec.post enc Tryd.prog Tryd.f6 false true false false) := by
  refine returnsInHanded_of_change_and (C := Tryd.checked) (X := fun w _ => laidMetH Tryd.prog Rows.nodesetSubsetsRow.laid w) (fun _ _ _ hh h => h.of_heap hh) own started (by kernel_rfl) Tryd.func6
    (ChangeSpec.witness_shaped (enc := enc) (C := Tryd.checked) (os := os) (X := fun w _ => laidMetH Tryd.prog Rows.nodesetSubsetsRow.laid w) false (World.doorLaid Tryd.prog 400 os) #[.int .u16 0] 8 rfl (World.shaped_of_RefB (by kernel_rfl) (by kernel_rfl)) (by kernel_rfl) (by kernel_rfl) (by kernel_rfl) (door_met os _)) ?_
  intro W base args ds gs before hval0 hW hcnd hsz0 _ _
  have hsz : (DataW.weightsEach Tryd.prog (Tryd.f6.params.toList ++ Rows.nodesetSubsetsSpec.plain.varTypes Tryd.prog) (ds ++ gs)).all (· ≤ reachBytes) = true := hsz0
  have hval : ∀ (j : Nat) t v, Tryd.f6.params[j]? = some t → args[j]? = some v → Value.okWide Tryd.prog W .any base t v := hval0
  have hW' := hW
  obtain ⟨p, q, hA0, hV, rfl, hfz, hnd⟩ := hW
  have hA : DataW.TrodAll enc Tryd.prog W 0 (fun _ => true) true Tryd.f6.params.toList args.toList ds p := hA0
  rw [Tryd.params6] at hA hval hsz
  obtain ⟨v0, vs0, d0, ds0, p0, q0, hargs, rfl, rfl, h0, r0⟩ := trodAll_cons hA
  obtain ⟨rfl, rfl, rfl⟩ := trodAll_nil r0
  obtain rfl : args = #[v0] := by cases args; simp_all
  obtain ⟨rfl, rfl⟩ := trodVars_none hV
  obtain ⟨a0, rfl, rfl, rfl, w0⟩ := open_int Tryd.underlying39 (hval 0 39 v0 rfl rfl) h0
  clear hA0 hval0 hsz0 hsz
  refine (G.trustquorumlaw01_NodesetSubsets.walk Pure.NodesetSubsets a0 W w0).mono fun e W' ⟨he, bel⟩ => ?_
  subst he
  exact ⟨_, rfl, _, _, _, [], _, [], hW', trodAll_mk1 (shut_bool Tryd.underlying4 _), (trodAll_cons_mk (shut_int Tryd.underlying39 w0) trodAll_mk0), rfl, bel.frame _, fun h => by cases h⟩
theorem over : Rows.nodesetSubsetsRow.holds Tryd.pinned (OpenSpec.ofChange Rows.nodesetSubsetsSpec) :=
  OpenClaim.holds_of_wide 6 Tryd.f6 rfl rfl rfl rfl rfl rfl rfl ⟨rfl, rfl, rfl, rfl, rfl⟩ rfl rfl rfl rfl rfl (by kernel_rfl) Tryd.func6 (by kernel_rfl)
    (of_decide_eq_true (by kernel_rfl)) (by unfold Func.isWrapper; first | (rw [if_pos (by decide +kernel)]; kernel_rfl) | (rw [if_neg (by decide +kernel)]; exact ⟨rfl, rfl⟩))
    (fun os started H enc _ => lifted os started H enc)
theorem proved : Rows.NodesetSubsetsSaid := over
end Go.Proofs.YtfkpimjiaijmgaaDoor.nodesetSubsets
namespace Go.Proofs.YtfkpimjiaijmgaaDoor
/-- The tied card, for the claim. -/
theorem nodesetSubsets_holds : Rows.NodesetSubsetsCardSaid :=
  Claim7.holds_tied_plain_at .later [] [.data, .data, .data] true (true, "e8da6328cacec61c5287b810aaa4802ec8fe0ed63228956437a4b3d0edbd7f4d") false
    nodesetSubsets.proved (fun _ h => by cases h) (by kernel_rfl) (fun _ h => by cases h) nodesetSubsets_row_tie rfl ⟨rfl, rfl⟩ (by kernel_rfl) rfl
    (fun f fn hf hfn => by
      obtain rfl : f = 6 := Option.some.inj ((show Tryd.prog.funcNamed "trustquorum/trustquorumlaw01.NodesetSubsets" = some 6 by kernel_rfl).symm.trans hf) |>.symm
      obtain rfl : fn = Tryd.f6 := (Option.some.inj (Tryd.func6.symm.trans hfn)).symm
      exact ⟨by kernel_rfl, fun j t ht => by
        rw [Tryd.params6] at ht
        have hm : t ∈ [39] := by simpa using Array.mem_of_getElem? ht
        have hall : ([39].all fun u => !Tryd.prog.wantsStandIn u) = true := by kernel_rfl
        exact (show Tryd.prog.wantsStandIn t = false by simpa using List.all_eq_true.1 hall t hm)⟩)
    (by kernel_rfl)
end Go.Proofs.YtfkpimjiaijmgaaDoor
end
#print axioms Go.Proofs.YtfkpimjiaijmgaaDoor.nodesetSubsets_holds
