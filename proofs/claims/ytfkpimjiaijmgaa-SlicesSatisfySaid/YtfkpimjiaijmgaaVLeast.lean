/- The least sets of a list: what stands in it, and that its order fixes it. Plain Lean. -/
import Derived.Test.YtfkpimjiaijmgaaVBits
import Derived.Test.YtfkpimjiaijmgaaVOrder
namespace Go.Proofs.YtfkpimjiaijmgaaV
/-- a comes before b in the order of sets. -/
def before (a b : Int) : Prop := rankI a < rankI b ∨ (rankI a = rankI b ∧ a < b)
instance (a b : Int) : Decidable (before a b) := inferInstanceAs (Decidable (_ ∨ _))
theorem before_iff (a b : Int) : cmpI a b < 0 ↔ before a b := cmpI_lt a b
theorem before_trans {a b c : Int} (h : before a b) (k : before b c) : before a c := by unfold before at *; omega
theorem before_irrefl (a : Int) : ¬ before a a := by unfold before; omega
theorem before_total (a b : Int) : before a b ∨ a = b ∨ before b a := by unfold before; omega
theorem sortSets_perm (l : List Int) : (sortSets l).Perm l := List.mergeSort_perm _ _
theorem sortSets_sorted (l : List Int) : (sortSets l).Pairwise fun x y => ¬ before y x := by
  have := List.pairwise_mergeSort (le := fun x y => !decide (cmpI y x < 0)) (fun a b c h1 h2 => by
    simp only [Bool.not_eq_true', decide_eq_false_iff_not, before_iff] at *
    unfold before at *; omega) (fun a b => by
    simp only [Bool.or_eq_true, Bool.not_eq_true', decide_eq_false_iff_not, before_iff]
    unfold before; omega) l
  refine this.imp ?_
  intro a b h
  simpa [before_iff] using h
theorem mem_keepLeast : ∀ (l out : List Int) (s : Int), s ∈ keepLeast out l → s ∈ out ∨ s ∈ l
  | [], _, _, h => .inl h
  | x :: l, out, s, h => by
    unfold keepLeast at h
    rcases mem_keepLeast l _ s h with h | h
    · by_cases hx : (out.any fun t => subI t x) = true
      · rw [if_pos hx] at h; exact .inl h
      · rw [if_neg hx] at h
        rcases List.mem_append.1 h with h | h
        · exact .inl h
        · rw [List.mem_singleton.1 h]; exact .inr (by simp)
    · exact .inr (by simp [h])
theorem keep_out : ∀ (l out : List Int) (s : Int), s ∈ out → s ∈ keepLeast out l
  | [], _, _, h => h
  | x :: l, out, s, h => by
    unfold keepLeast
    refine keep_out l _ s ?_
    split
    · exact h
    · exact List.mem_append.2 (.inl h)
/-- Each element has one below it that is kept. -/
theorem keep_some : ∀ (l out : List Int) (s : Int), s ∈ l → ∃ t ∈ keepLeast out l, subI t s = true
  | x :: l, out, s, h => by
    unfold keepLeast
    rcases List.mem_cons.1 h with rfl | h
    · by_cases hx : (out.any fun t => subI t s) = true
      · rw [if_pos hx]
        obtain ⟨t, ht, hs⟩ := List.any_eq_true.1 hx
        exact ⟨t, keep_out _ _ _ ht, hs⟩
      · rw [if_neg hx]
        exact ⟨s, keep_out _ _ _ (by simp), by simp [subI]⟩
    · exact keep_some l _ s h
/-- What is kept has nothing kept ahead of it below it. -/
theorem keep_sorted : ∀ (l out : List Int), (out ++ l).Pairwise (fun x y => ¬ before y x) → out.Pairwise (fun x y => before x y ∧ subI x y = false) → (∀ x ∈ l, isSet x = true) → (∀ x ∈ out, isSet x = true) →
    (keepLeast out l).Pairwise (fun x y => before x y ∧ subI x y = false)
  | [], _, _, h, _, _ => h
  | x :: l, out, hs, h, hl, ho => by
    unfold keepLeast
    have hs' : (out ++ l).Pairwise (fun x y => ¬ before y x) := by
      rw [List.pairwise_append] at hs ⊢
      exact ⟨hs.1, (List.pairwise_cons.1 hs.2.1).2, fun a ha b hb => hs.2.2 a ha b (by simp [hb])⟩
    by_cases hx : (out.any fun t => subI t x) = true
    · rw [if_pos hx]; exact keep_sorted l out hs' h (fun y hy => hl y (by simp [hy])) ho
    · rw [if_neg hx]
      refine keep_sorted l (out ++ [x]) (by simpa using hs) ?_ (fun y hy => hl y (by simp [hy])) ?_
      · rw [List.pairwise_append]
        refine ⟨h, by simp, fun a ha b hb => ?_⟩
        rw [List.mem_singleton.1 hb]
        have hn : subI a x = false := by
          cases hz : subI a x with
          | false => rfl
          | true => exact absurd (List.any_eq_true.2 ⟨a, ha, hz⟩) hx
        have hnb := (List.pairwise_append.1 hs).2.2 a ha x (by simp)
        rcases before_total a x with hb | rfl | hb
        · exact ⟨hb, hn⟩
        · simp [subI] at hn
        · exact absurd hb hnb
      · intro y hy
        rcases List.mem_append.1 hy with hy | hy
        · exact ho y hy
        · rw [List.mem_singleton.1 hy]; exact hl x (by simp)
/-- A subset is no greater: it comes first, or is the set. -/
theorem sub_before {t s : Int} (ht : isSet t = true) (hs : isSet s = true) (h : subI t s = true) : before t s ∨ t = s := by
  obtain ⟨a, rfl, ha⟩ := isSet_nat ht
  obtain ⟨b, rfl, hb⟩ := isSet_nat hs
  simp only [subI, Int.toNat_natCast, beq_iff_eq] at h
  have hle : popc a ≤ popc b := by
    rw [popc_bits ⟨a, ha⟩, popc_bits ⟨b, hb⟩]
    rw [← List.countP_eq_length_filter, ← List.countP_eq_length_filter]
    refine List.countP_mono_left fun k _ hk => ?_
    have hk' : a.testBit k = true := hk
    rw [← h, Nat.testBit_and] at hk'
    simp at hk'
    exact hk'.2
  have hab : a ≤ b := by rw [← h]; exact Nat.and_le_right
  have ra : rankI (a : Int) = popc a := by unfold rankI; rw [if_pos ht]; rfl
  have rb : rankI (b : Int) = popc b := by unfold rankI; rw [if_pos hs]; rfl
  unfold before
  rw [ra, rb]
  omega
theorem leastL_sorted (l : List Int) : (leastL l).Pairwise (fun x y => before x y ∧ subI x y = false) := by
  refine keep_sorted _ [] (by simpa using sortSets_sorted _) (by simp) (fun x hx => ?_) (by simp)
  exact (List.mem_filter.1 ((sortSets_perm _).mem_iff.1 hx)).2
theorem mem_leastL {l : List Int} {s : Int} : s ∈ leastL l ↔ s ∈ l ∧ isSet s = true ∧ ∀ t ∈ l, isSet t = true → subI t s = true → t = s := by
  have hmem : ∀ x, x ∈ sortSets (l.filter isSet) ↔ x ∈ l ∧ isSet x = true := fun x => by
    rw [(sortSets_perm _).mem_iff, List.mem_filter]
  constructor
  · intro h
    have h1 : s ∈ l ∧ isSet s = true := by
      rcases mem_keepLeast _ _ _ h with h | h
      · simp at h
      · exact (hmem s).1 h
    refine ⟨h1.1, h1.2, fun t ht hts hsub => ?_⟩
    obtain ⟨u, hu, hut⟩ := keep_some (sortSets (l.filter isSet)) [] t ((hmem t).2 ⟨ht, hts⟩)
    have hu1 : isSet u = true := by
      rcases mem_keepLeast _ _ _ hu with h | h
      · simp at h
      · exact ((hmem u).1 h).2
    have hus : subI u s = true := by
      simp only [subI, beq_iff_eq] at *
      rw [← hut, Nat.and_assoc, hsub]
    have heq : u = s := by
      have hp := leastL_sorted l
      apply Classical.byContradiction
      intro hne
      obtain ⟨i, hi, rfl⟩ := List.getElem_of_mem hu
      obtain ⟨j, hj, rfl⟩ := List.getElem_of_mem h
      have hpw := List.pairwise_iff_getElem.1 hp
      rcases Nat.lt_trichotomy i j with hij | rfl | hij
      · have h0 := (hpw i j hi hj hij).2; exact absurd (h0.symm.trans hus) (by simp)
      · exact hne rfl
      · have hb := (hpw j i hj hi hij).1
        rcases sub_before hu1 h1.2 hus with hb' | he
        · exact before_irrefl _ (before_trans hb hb')
        · exact hne he
    subst heq
    rcases sub_before hu1 hts hut with hb | he
    · rcases sub_before hts h1.2 hsub with hb' | he
      · exact absurd (before_trans hb hb') (before_irrefl _)
      · exact he
    · exact he.symm
  · rintro ⟨h1, h2, h3⟩
    obtain ⟨u, hu, hus⟩ := keep_some (sortSets (l.filter isSet)) [] s ((hmem s).2 ⟨h1, h2⟩)
    have hu' : u ∈ l ∧ isSet u = true := by
      rcases mem_keepLeast _ _ _ hu with h | h
      · simp at h
      · exact (hmem u).1 h
    have := h3 u hu'.1 hu'.2 hus
    rw [← this]; exact hu
/-- Two strictly sorted lists with the same elements are one. -/
theorem sorted_ext : ∀ {l m : List Int}, l.Pairwise before → m.Pairwise before → (∀ x, x ∈ l ↔ x ∈ m) → l = m
  | [], [], _, _, _ => rfl
  | [], y :: m, _, _, h => by have := (h y).2 (by simp); simp at this
  | x :: l, [], _, _, h => by have := (h x).1 (by simp); simp at this
  | x :: l, y :: m, hl, hm, h => by
    have hl' := List.pairwise_cons.1 hl
    have hm' := List.pairwise_cons.1 hm
    have hxy : x = y := by
      rcases List.mem_cons.1 ((h x).1 (by simp)) with he | hx
      · exact he
      · rcases List.mem_cons.1 ((h y).2 (by simp)) with he | hy
        · exact he.symm
        · exact absurd (before_trans (hl'.1 y hy) (hm'.1 x hx)) (before_irrefl _)
    subst hxy
    congr 1
    refine sorted_ext hl'.2 hm'.2 (fun z => ?_)
    constructor
    · intro hz
      rcases List.mem_cons.1 ((h z).1 (by simp [hz])) with rfl | hz'
      · exact absurd (hl'.1 z hz) (before_irrefl _)
      · exact hz'
    · intro hz
      rcases List.mem_cons.1 ((h z).2 (by simp [hz])) with rfl | hz'
      · exact absurd (hm'.1 z hz) (before_irrefl _)
      · exact hz'
theorem leastL_eq {l m : List Int} (hm : m.Pairwise before) (h : ∀ x, x ∈ leastL l ↔ x ∈ m) : leastL l = m :=
  sorted_ext ((leastL_sorted l).imp fun h => h.1) hm h
theorem mem_setsOf {p : Fin 1024 → Bool} {x : Int} : x ∈ (allF.filter p).map (fun s => (s.1 : Int)) ↔ ∃ s : Fin 1024, p s = true ∧ x = (s.1 : Int) := by
  simp only [List.mem_map, List.mem_filter]
  constructor
  · rintro ⟨s, ⟨_, h⟩, rfl⟩; exact ⟨s, h, rfl⟩
  · rintro ⟨s, h, rfl⟩; exact ⟨s, ⟨mem_allF s, h⟩, rfl⟩
theorem isSet_fin (s : Fin 1024) : isSet (s.1 : Int) = true := by have := s.2; simp [isSet]; omega
/-- What the least sets of a predicate are, told and checked. -/
theorem leastL_check (p : Fin 1024 → Bool) (m : List (Fin 1024)) (h1 : (m.map fun s => (s.1 : Int)).Pairwise before) (h2 : ∀ c ∈ m, p c = true)
    (h3 : ∀ s : Fin 1024, p s = true → ∃ c ∈ m, subI (c.1 : Int) (s.1 : Int) = true) (h4 : ∀ c ∈ m, ∀ s : Fin 1024, p s = true → subI (s.1 : Int) (c.1 : Int) = true → s = c) :
    leastL ((allF.filter p).map fun s => (s.1 : Int)) = m.map fun s => (s.1 : Int) := by
  refine leastL_eq h1 (fun x => ?_)
  rw [mem_leastL, mem_setsOf]
  constructor
  · rintro ⟨⟨s, hs, rfl⟩, _, h⟩
    obtain ⟨c, hc, hcs⟩ := h3 s hs
    have := h (c.1 : Int) (mem_setsOf.2 ⟨c, h2 c hc, rfl⟩) (isSet_fin c) hcs
    rw [← this]; exact List.mem_map.2 ⟨c, hc, rfl⟩
  · intro hx
    obtain ⟨c, hc, rfl⟩ := List.mem_map.1 hx
    refine ⟨⟨c, h2 c hc, rfl⟩, isSet_fin c, fun t ht _ hts => ?_⟩
    obtain ⟨s, hs, rfl⟩ := mem_setsOf.1 ht
    rw [h4 c hc s hs hts]
def upBefore : List Int → Bool
  | [] => true
  | a :: l => l.all (fun b => decide (before a b)) && upBefore l
theorem upBefore_pw : ∀ {l : List Int}, upBefore l = true → l.Pairwise before
  | [], _ => .nil
  | a :: l, h => by
    simp only [upBefore, Bool.and_eq_true, List.all_eq_true, decide_eq_true_eq] at h
    exact .cons h.1 (upBefore_pw h.2)
def checkAll (p : Nat → Bool) (m : List (Fin 1024)) : Bool :=
  upBefore (m.map fun s => (s.1 : Int)) && m.all (fun c => p c.1) && (List.range 1024).all fun s => !p s || (m.any (fun c => subI (c.1 : Int) (s : Int)) && m.all fun c => !subI (s : Int) (c.1 : Int) || c.1 == s)
theorem leastL_checked (p : Nat → Bool) (m : List (Fin 1024)) (h : checkAll p m = true) : leastL ((allF.filter fun s => p s.1).map fun s => (s.1 : Int)) = m.map fun s => (s.1 : Int) := by
  simp only [checkAll, Bool.and_eq_true, List.all_eq_true, List.mem_range] at h
  obtain ⟨⟨h1, h2⟩, h3⟩ := h
  have h3' : ∀ s : Fin 1024, p s.1 = true → (∃ c ∈ m, subI (c.1 : Int) (s.1 : Int) = true) ∧ ∀ c ∈ m, subI (s.1 : Int) (c.1 : Int) = true → s = c := by
    intro s hs
    have := h3 s.1 s.2
    rw [hs] at this
    simp only [Bool.not_true, Bool.false_or, Bool.and_eq_true, List.any_eq_true, List.all_eq_true] at this
    refine ⟨this.1, fun c hc hsub => ?_⟩
    have h5 := this.2 c hc
    rw [hsub] at h5
    simp at h5
    exact Fin.ext h5.symm
  exact leastL_check (fun s => p s.1) m (upBefore_pw h1) (fun c hc => h2 c hc) (fun s hs => (h3' s hs).1) (fun c hc s hs hsub => (h3' s hs).2 c hc hsub)
end Go.Proofs.YtfkpimjiaijmgaaV
