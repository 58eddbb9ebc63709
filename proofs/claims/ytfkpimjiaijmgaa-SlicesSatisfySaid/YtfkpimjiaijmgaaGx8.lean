-- PRINTED by print.py (a twelfth state) out of the translation. Not trusted: Lean checks it.
import Derived.Test.YtfkpimjiaijmgaaGx0
import Derived.Test.YtfkpimjiaijmgaaGx5
import Derived.Test.YtfkpimjiaijmgaaGx7
import Derived.Test.YtfkpimjiaijmgaaVKit
import Derived.Test.YtfkpimjiaijmgaaVBits
import Derived.Test.YtfkpimjiaijmgaaSh
namespace Go.Proofs.Ytfkpimjiaijmgaa.G
open Go.RowKit Go.Proofs.YtfkpimjiaijmgaaW.PrintWords Go.Proofs.YtfkpimjiaijmgaaW.PrintLast Go.Proofs.YtfkpimjiaijmgaaW.PrintMore
attribute [local go_sem] max2_int min2_int max_two min_two max_three min_three max_four min_four   -- for this text's walks alone
set_option linter.unusedVariables false
set_option linter.unusedSimpArgs false

-- GIVEN BY HAND: nodeset_Least.lean
section
open Go.Sort Go.Lib YtfkpimjiaijmgaaV

theorem valid_eq (x : Int) : nodeset_Valid.f x = some (isSet x) := by
  unfold nodeset_Valid.f nodeset_below.f isSet
  have e : shl .i64 1 10 = 1024 := by decide +kernel
  by_cases h : 0 ≤ x
  · simp [h, ge_iff_le, e]
  · simp [h, ge_iff_le]

theorem least1_gives (x : Int) (W : World) : FnGives Try.prog 61 #[] #[.int .i64 x] (.bool (!isSet x)) W := by
  have A := Aside0.mk (valid_eq x)
  unfold FnGives
  generalize isSet x = b at *
  show Calls Try.prog 61 #[.int .i64 x] W _
  go_enter Try.func61, Try.ntmps61
  go_wp2_with (first | (go_at_call 46; (with_reducible refine (nodeset_Valid.calls x b _ A.out).mono ?_); rintro e w' ⟨rfl, ⟨nd, rfl⟩⟩))
  go_ret
  exact ⟨rfl, _, rfl⟩

theorem least_delete {W : World} {base : Nat} {v : Value} {l : List Int} (h : W.ownsRow base 3 1 v l.length (l.map (.int .i64))) :
    Calls Try.prog 59 #[v, .func (.func 61) #[] #[]] W fun e w' => ∃ v', e = .returned v' ∧ w'.ownsRow base 3 1 v' (l.filter isSet).length ((l.filter isSet).map (.int .i64)) ∧ ∃ row, W.grownBy w' row ∧ ∀ k, row = some k → base ≤ k := by
  by_cases hl : l = []
  · subst hl
    obtain ⟨A, c, rfl⟩ := own_slice h
    go_enter Try.func59, Try.ntmps59
    go_wp2_with (first | (go_at_call 69; (refine (Try.slices_IndexFunc_empty (α := Int) A c _ _).mono ?_); rintro e w' ⟨rfl, rfl⟩))
    go_ret
    exact ⟨_, rfl, h, none, grown_of_below (Below.refl _ _) none, by simp⟩
  · have hn : 0 < l.length := List.length_pos_iff.2 hl
    obtain ⟨g, cap, rfl, _, _⟩ := h.form hn
    obtain ⟨hH, hg, hb, _, hcap⟩ := holds_of_own h
    have hcn : l.length ≤ 9223372036854775807 := by
      obtain ⟨A, c, he, hr⟩ := own_reads (k := .i64) h
      exact hr.2.1
    have hp : PredAt Try.prog 61 #[] (Value.int .i64) (fun x => !isSet x) W := fun W' x _ => least1_gives x W'
    have hpo : PredOver Try.prog 61 #[] (Value.int .i64) (fun x => !isSet x) g 0 l.toArray.size W := fun _ _ _ x _ => least1_gives x _
    have hcon := Try.slices_DeleteFunc (Value.int .i64) (fun _ => rfl) (fun x => !isSet x) 61 #[] (enters_of Try.func61 (by kernel_rfl) rfl) 0 Try.zeroValue3 g 0 cap l.toArray W hp hpo hH (by simpa using hcn) (by simpa using hcap)
    have e1 : (l.filter fun x => !!isSet x) = l.filter isSet := by congr; funext x; simp
    simp only [List.size_toArray, e1] at hcon
    refine hcon.mono ?_
    rintro e w' ⟨rfl, q, rfl⟩
    have hle : (l.filter isSet).length ≤ l.length := List.length_filter_le _ _
    have := own_put (enc := Value.int .i64) (q := q) (os := #[]) (l.filter isSet ++ List.replicate (l.length - (l.filter isSet).length) 0) h (by simp; omega) (m := (l.filter isSet).length) (by simp)
    rw [grow_empty, List.take_left'] at this
    · refine ⟨_, rfl, this, some g, ?_, fun k hk => by cases hk; exact hb⟩
      have := grownBy_put (enc := Value.int .i64) (w := W) (g := g) (n := q) (os := #[]) (l.filter isSet ++ List.replicate (l.length - (l.filter isSet).length) (0 : Int)).toArray
      rwa [grow_empty] at this
    · rfl

theorem size_eq (x : Int) (h : isSet x = true) : nodeset_Size.f x = some (popc x.toNat : Int) := by
  have e : IntKind.u64.wrap x = x := by
    simp only [isSet, Bool.and_eq_true, decide_eq_true_eq] at h
    exact IntWalk_u64 x (by omega) (by omega)
  unfold nodeset_Size.f
  rw [valid_eq, h, e]
  have hx : ∃ n : Fin 1024, x = (n.1 : Int) := by
    simp only [isSet, Bool.and_eq_true, decide_eq_true_eq] at h
    exact ⟨⟨x.toNat, by omega⟩, by simp; omega⟩
  obtain ⟨n, rfl⟩ := hx
  simp only [Option.bind_some, if_true]
  rw [ones_all n]; rfl
where
  IntWalk_u64 (x : Int) (h0 : 0 ≤ x) (h1 : x < 1024) : IntKind.u64.wrap x = x := by
    obtain ⟨n, rfl⟩ := Int.eq_ofNat_of_zero_le h0
    have hn : n < 1024 := by omega
    revert hn; exact (by decide +kernel : ∀ m : Fin 1024, IntKind.u64.wrap (m.1 : Int) = (m.1 : Int)) ⟨n, by omega⟩ |> fun h _ => h
  ones_all : ∀ x : Fin 1024, bits_OnesCount.f (x.1 : Int) = some (popc x.1 : Int) := by decide +kernel

theorem rank_eq (x : Int) : nodeset_rank.f x = some (rankI x) := by
  unfold nodeset_rank.f rankI
  rw [valid_eq]
  by_cases h : isSet x = true
  · simp [h, size_eq x h]
  · simp [h]

theorem cmp_eq (a b : Int) : cmp_Compare_int.f a b = some (sgn a b) := by
  unfold cmp_Compare_int.f cmp_isNaN_int.f sgn
  simp
  split
  · rfl
  · split <;> rfl

theorem or_eq (a b : Int) : cmp_Or_int.f 3 [a, b] = some (if a = 0 then b else a) := by
  have w1 : wrap64 (0 + 1) = 1 := by unfold wrap64; omega
  have w2 : wrap64 (1 + 1) = 2 := by unfold wrap64; omega
  have r0 : YtfkpimjiaijmgaaW.PrintWords.rd [a, b] 0 = a := rfl
  have r1 : YtfkpimjiaijmgaaW.PrintWords.rd [a, b] 1 = b := rfl
  have hl : (([a, b] : List Int).length : Int) = 2 := rfl
  unfold cmp_Or_int.f
  rw [hl]
  simp only [cmp_Or_int.l0, w1, w2, r0, r1, hl]
  by_cases ha : a = 0
  · by_cases hb : b = 0 <;> simp [ha, hb]
  · simp [ha]

theorem compare_grows (a b : Int) (w : World) :
    Calls Try.prog 63 #[.int .i64 a, .int .i64 b] w fun e w' => e = .returned (.int .i64 (cmpI a b)) ∧ ∃ q os, w' = grow (w.drewN q) os := by
  have A1 := Aside0.mk (rank_eq a)
  have A2 := Aside0.mk (rank_eq b)
  have A3 := Aside0.mk (cmp_eq (rankI a) (rankI b))
  have A4 := Aside0.mk (cmp_eq a b)
  have A5 := Aside0.mk (or_eq (sgn (rankI a) (rankI b)) (sgn a b))
  have e : cmpI a b = if sgn (rankI a) (rankI b) = 0 then sgn a b else sgn (rankI a) (rankI b) := rfl
  rw [← e] at A5
  clear e
  generalize cmpI a b = r at *
  generalize sgn (rankI a) (rankI b) = t3 at *
  generalize sgn a b = t4 at *
  generalize rankI a = t1 at *
  generalize rankI b = t2 at *
  go_enter Try.func63, Try.ntmps63
  go_wp2_with (first
    | (go_at_call 75; (with_reducible refine (nodeset_rank.calls a t1 _ A1.out).mono ?_); rintro e w' ⟨rfl, ⟨nd, rfl⟩⟩)
    | (go_at_call 75; (with_reducible refine (nodeset_rank.calls b t2 _ A2.out).mono ?_); rintro e w' ⟨rfl, ⟨nd, rfl⟩⟩)
    | (go_at_call 74; (with_reducible refine (cmp_Compare_int.calls t1 t2 t3 _ A3.out).mono ?_); rintro e w' ⟨rfl, ⟨nd, rfl⟩⟩)
    | (go_at_call 74; (with_reducible refine (cmp_Compare_int.calls a b t4 _ A4.out).mono ?_); rintro e w' ⟨rfl, ⟨nd, rfl⟩⟩)
    | (go_at_call 73; refine (cmp_Or_int.calls 3 _ 2 [t3, t4] r _ ?side1 (Nat.le_refl 2) A5.out).mono ?_; (case side1 => exact C_pair _ _ _ _); rintro e w' ⟨rfl, ⟨nd, rfl⟩⟩))
  go_ret
  exact ⟨rfl, _, _, grow_drewN_alloc _ _ _ _⟩
abbrev SetI := { x : Int // isSet x = true }
instance : Inhabited SetI := ⟨⟨0, rfl⟩⟩
def encS (x : SetI) : Value := .int .i64 x.1
def cfS (x y : SetI) : Int := cmpI x.1 y.1
theorem ltS (x y : SetI) : ltOf cfS x y = true ↔ (rankI x.1 < rankI y.1 ∨ (rankI x.1 = rankI y.1 ∧ x.1 < y.1)) := by
  unfold ltOf cfS; simp [cmpI_lt]
theorem ltS_f (x y : SetI) : ltOf cfS x y = false ↔ ¬ (rankI x.1 < rankI y.1 ∨ (rankI x.1 = rankI y.1 ∧ x.1 < y.1)) := by
  rw [← ltS]; simp
theorem swoS : SWO (ltOf cfS) where
  irrefl x := by rw [ltS_f]; omega
  trans x y z h1 h2 := by rw [ltS] at *; omega
  ntrans x y z h1 h2 := by rw [ltS_f] at *; omega
theorem cmpS (blk off size : Nat) (w : World) : CmpLays1 Try.prog 63 #[] encS cfS blk off size w := fun m os dk _ x y => by
  exact (compare_grows x.1 y.1 _).mono fun e w' ⟨he, q, os', hw⟩ => ⟨he, q, os', hw⟩

theorem least_sort {W : World} {base : Nat} {v : Value} {l : List Int} (h : W.ownsRow base 3 1 v l.length (l.map (.int .i64))) (hs : ∀ x ∈ l, isSet x = true) (hlen : l.length < 4611686018427387904) :
    Calls Try.prog 62 #[v, .func (.func 63) #[] #[]] W fun e w' => e = .returned (.tuple #[]) ∧ w'.ownsRow base 3 1 v l.length ((sortSets l).map (.int .i64)) ∧ ∃ row, W.grownBy w' row ∧ ∀ k, row = some k → base ≤ k := by
  by_cases hl : l = []
  · subst hl
    obtain ⟨A, c, rfl⟩ := own_slice h
    refine (Try.slices_SortFunc_none (α := Int) A c _ W).mono ?_
    rintro e w' ⟨rfl, rfl⟩
    exact ⟨rfl, by simpa [sortSets] using h, none, grown_of_below (Below.refl _ _) none, by simp⟩
  · have hn : 0 < l.length := List.length_pos_iff.2 hl
    obtain ⟨g, cap, rfl, _, _⟩ := h.form hn
    obtain ⟨d, hd⟩ : ∃ d : List SetI, d.map (·.1) = l := ⟨l.attachWith _ hs, by simp⟩
    have hdl : d.length = l.length := by rw [← hd]; simp
    have h' : W.ownsRow base 3 1 (.slice (some ⟨g, 0, none⟩) l.length cap) l.length (d.map encS) := by
      have : d.map encS = l.map (.int .i64) := by rw [← hd, List.map_map]; rfl
      rw [this]; exact h
    obtain ⟨hH, hg, hb, _, hcap⟩ := holds_of_own h'
    have hcon := Try.slices_SortFunc_total encS (fun _ => rfl) cfS swoS 63 #[] g 0 cap d.toArray W (enters_of Try.func63 (by kernel_rfl) rfl) (cmpS g 0 _ W) hH hg (by simpa [hdl] using hlen) (fun x y h1 h2 => by
      rw [ltS_f] at h1 h2; exact Subtype.ext (by omega))
    simp only [List.size_toArray, hdl] at hcon
    refine hcon.mono ?_
    rintro e w' ⟨rfl, q, os, rfl⟩
    have e1 : (d.mergeSort fun x y => !(ltOf cfS) y x).map encS = (sortSets l).map (.int .i64) := by
      have : encS = (Value.int .i64) ∘ (fun x : SetI => x.1) := rfl
      rw [this, ← List.map_map, List.map_mergeSort (s := fun x y => !decide (cmpI y x < 0))]
      · rw [hd]; rfl
      · intro a _ b _; rfl
    have hlm : (d.mergeSort fun x y => !(ltOf cfS) y x).length = l.length := by rw [List.length_mergeSort, hdl]
    have := own_put (enc := encS) (q := q) (os := os) (d.mergeSort fun x y => !(ltOf cfS) y x) h' (by omega) (m := l.length) (by omega)
    rw [List.take_of_length_le (by omega), e1] at this
    exact ⟨rfl, this, some g, grownBy_put _, fun k hk => by cases hk; exact hb⟩

theorem least2_gives (s x : Int) (B : Nat) (W : World) (hc : W.cell? ⟨B, 0, none⟩ = some (.int .i64 s)) :
    FnGives Try.prog 64 #[.pointer (some ⟨B, 0, none⟩)] #[.int .i64 x] (.bool (subG x s)) W := by
  unfold FnGives
  show Calls Try.prog 64 #[.int .i64 x, .pointer (some ⟨B, 0, none⟩)] W _
  by_cases h : Go.bits .andNot .i64 x s = 0
  all_goals
    have h1 : subG x s = (Go.bits .andNot .i64 x s == 0) := by unfold subG; rw [Bool.eq_iff_iff]; simp
    rw [h1]
    clear h1 h
    go_enter Try.func64, Try.ntmps64
    go_wp2
    go_ret
    exact ⟨rfl, 0, rfl⟩

theorem least_contains {W : World} {A : Option Addr} {c : Nat} {out : List Int} {s : Int} {B : Nat} (hC : Kd.C (Kd.int .i64) W A out.length out) (hB : B < W.heap.size) (hcell : W.cell? ⟨B, 0, none⟩ = some (.int .i64 s)) :
    Calls Try.prog 54 #[.slice A out.length c, .func (.func 64) #[] #[.pointer (some ⟨B, 0, none⟩)]] W fun e w' => e = .returned (.bool (out.any fun t => subG t s)) ∧ ∃ q, w' = W.drewN q := by
  by_cases hl : out = []
  · subst hl
    refine (Try.slices_ContainsFunc_empty (α := Int) A c _ W).mono ?_
    rintro e w' ⟨rfl, rfl⟩
    exact ⟨rfl, 0, rfl⟩
  · have hn : 0 < out.length := List.length_pos_iff.2 hl
    obtain ⟨b, off, rfl, _, hcs⟩ := addr_of_C hC hn
    have hcon := Try.slices_ContainsFunc (Value.int .i64) (fun t => subG t s) 64 #[.pointer (some ⟨B, 0, none⟩)] (enters_of Try.func64 (by kernel_rfl) rfl) b off out.length c out W
      (fun W' x hb => least2_gives s x B W' ((hb.cell (p := ⟨B, 0, none⟩) hB).trans hcell)) (Nat.le_refl _) (Kd.C_max hC) (fun j hj => by rw [hcs j hj]; simp [List.getD, hj])
    rw [List.take_length] at hcon
    exact hcon


theorem clone_own {w : World} {A0 : Option Addr} {c0 : Nat} {l0 : List Int} (hr0 : Kd.C (Kd.int .i64) w A0 l0.length l0) (hlen : l0.length < 17592186044416) :
    Calls Try.prog 60 #[.slice A0 l0.length c0] w fun e w' => ∃ v, e = .returned v ∧ w'.ownsRow w.heap.size 3 1 v l0.length (l0.map (.int .i64)) ∧ Below w.heap.size w w' := by
  by_cases hl : l0 = []
  · subst hl
    cases A0 with
    | none =>
      refine (Try.slices_Clone_int_nil _ c0 w).mono ?_
      rintro e w' ⟨rfl, rfl⟩
      exact ⟨_, rfl, own_nil _ _ _ _, Below.refl _ _⟩
    | some a =>
      refine (Try.slices_Clone_int_zero a c0 w).mono ?_
      rintro e w' ⟨v, rfl, h, _, hb⟩
      exact ⟨_, rfl, h, hb⟩
  · have hn : 0 < l0.length := List.length_pos_iff.2 hl
    obtain ⟨b, off, rfl, _, hcs⟩ := addr_of_C hr0 hn
    refine (Try.slices_Clone_int b off l0.length c0 l0 w (Nat.le_refl _) (by omega) hcs).mono ?_
    rintro e w' ⟨v, rfl, h, _, hb⟩
    rw [List.take_length] at h
    exact ⟨_, rfl, h, hb⟩


set_option maxHeartbeats 1000000 in
theorem least_walk (A0 : Option Addr) (c0 : Nat) (l0 : List Int) (w : World) (hr0 : Kd.C (Kd.int .i64) w A0 l0.length l0) (hc0 : l0.length ≤ c0) (hlen : l0.length < 17592186044416) :
    Calls Try.prog 45 #[.slice A0 l0.length c0] w fun e w' => ∃ v1_ : Value, e = .returned v1_ ∧ Kd.R (Kd.int .i64) 3 w' w.heap.size (fun _ => True) v1_ (keepG [] (sortSets (l0.filter isSet))) ∧ Below w.heap.size w w' := by
  have H1 := Aside0.mk (clone_own (c0 := c0) hr0 hlen)
  have hle := List.length_filter_le isSet l0
  have HS := Aside0.mk (show ∀ x ∈ l0.filter isSet, isSet x = true from fun x hx => (List.mem_filter.1 hx).2)
  obtain ⟨L, hL⟩ : ∃ L, L = sortSets (l0.filter isSet) := ⟨_, rfl⟩
  have hn : L.length = (l0.filter isSet).length := by rw [hL]; exact List.length_mergeSort _
  rw [← hL]
  have HL := Aside0.mk hL
  have hLl : L.length < 17592186044416 := by omega
  have HN := Aside0.mk hn
  clear hr0 hc0 hL hn
  go_enter Try.func45, Try.ntmps45
  go_wp2_with fail
  refine H1.out.mono ?_
  rintro e w1 ⟨v1, rfl, ho1, hb1⟩
  have HO1 := Aside0.mk ho1
  have HB1 := Aside0.mk hb1
  clear ho1 hb1 H1
  go_wp2_with fail
  refine (least_delete HO1.out).mono ?_
  rintro e w2 ⟨v2, rfl, ho2, row, hg2, hb2⟩
  have HO2 := Aside0.mk ho2
  have HB2 := Aside0.mk (HB1.out.grown hg2 HB1.out.size hb2)
  clear ho2 hg2 hb2 HB1 HO1
  go_wp2_with fail
  refine (least_sort HO2.out HS.out (by omega)).mono ?_
  rintro e w3 ⟨rfl, ho3, row3, hg3, hb3⟩
  rw [← HL.out, ← HN.out] at ho3
  have hr3 : Kd.R (Kd.int .i64) 3 w3 w.heap.size (fun _ => True) v2 L := Kd.R_of_own ho3 (fun _ _ => trivial)
  have HB3 := Aside0.mk (HB2.out.grown hg3 HB2.out.size hb3)
  clear ho3 hg3 hb3 HB2 HO2 HN HL HS hle hlen
  obtain ⟨AL, cL, rfl⟩ := Kd.R_slice hr3
  have HR3 := Aside0.mk hr3
  clear hr3
  go_wp2_with fail
  go_loopw [3, 13] (fun v3 v13 wr => ∃ (i : Nat) (out : List Int) (Au : Option Addr) (cu : Nat), v13 = .int .i64 i ∧ v3 = .slice Au out.length cu ∧ i ≤ L.length ∧ out.length ≤ i ∧ Aside0 (keepG out (L.drop i) = keepG [] L) ∧ Aside0 (Kd.R (Kd.int .i64) 3 wr w.heap.size (fun _ => True) (.slice Au out.length cu) out) ∧ Aside0 (Kd.R (Kd.int .i64) 3 wr w.heap.size (fun k => True ∧ some k ≠ (Value.slice Au out.length cu).ownBlock) (.slice AL L.length cL) L) ∧ Aside0 (Below w.heap.size w wr)) (fun _ v13 _ => L.length - (intOf v13).toNat)
  case atStart =>
    exact ⟨0, [], none, 0, rfl, rfl, Nat.zero_le _, Nat.le_refl _, ⟨rfl⟩, ⟨Kd.R_nil _ _ _ _ _⟩, ⟨Kd.R_apart_nil HR3.out⟩, HB3⟩
  case round =>
    obtain ⟨i, out, Au, cu, rfl, rfl, hi, hoi, HK, HU, HRL, HBr⟩ := hrel
    clear HR3 HB3
    by_cases hlt : i < L.length
    · have hC := (Kd.R_reads' HRL.out).2.2
      obtain ⟨b, off, rfl, _, hcs⟩ := addr_of_C hC (by omega)
      have hcell := hcs i hlt
      have HCu := Aside0.mk (Kd.R_reads' HU.out).2.2
      have HS := Aside0.mk (keepG_step hlt out)
      clear hC hcs
      obtain ⟨x, hx⟩ : ∃ x, x = L.getD i 0 := ⟨_, rfl⟩
      rw [← hx] at hcell HS
      clear hx
      go_wp2_with fail
      refine (least_contains (s := x) (Kd.C_alloc HCu.out _) (by simp) (by simp)).mono ?_
      rintro e w4 ⟨rfl, q, rfl⟩
      generalize (out.any fun t => subG t x) = an at *
      cases an with
      | true =>
        go_wp2
        go_roundw
        case rel =>
          refine ⟨i + 1, out, Au, cu, by go_num, rfl, by omega, by omega, ⟨?_⟩, ⟨?_⟩, ⟨?_⟩, ⟨?_⟩⟩
          · rw [← HK.out, HS.out]; rfl
          · exact Kd.R_drewN (Kd.R_alloc HU.out _) _
          · exact Kd.R_drewN (Kd.R_alloc HRL.out _) _
          · exact pw_below_drewN (below_alloc HBr.out _) _
        case measure => simp [intOf]; omega
      | false =>
        have hsz := HBr.out.size
        go_wp2_with (first | (at_builtin; refine Kd.R_append (Kd.int .i64) (w0 := w) w.heap.size rfl (.tmp 21) (.tmp 23) 22 3 (.int .i64 0) 8 rfl Try.underlying22 info3 rfl (by decide) (by omega) (.slice Au out.length cu) out x [.int .i64 x] (fun _ => True) (fun _ => False) rfl ?aX ?aP (fun _ hk => hk.elim) ?aF ?aO ?aB ?aS ?aL ?_; (case aX => first | (go_simp; done) | (go_simp; rfl)); (case aP => exact rfl); (case aF => exact (fun _ _ => trivial)); (case aO => exact Kd.R_drewN (Kd.R_alloc HU.out _) _); (case aB => exact pw_below_drewN (below_alloc HBr.out _) _); (case aS => simp; omega); (case aL => omega); intro v5 w5 ho hb hg hat; have HO5 := Aside0.mk ho; have HB5 := Aside0.mk hb; have HRL5 := Aside0.mk (Kd.R_after (Kd.R_drewN (Kd.R_alloc HRL.out _) _) hg hat); clear ho hb hg hat HU HRL HBr HCu; obtain ⟨Au5, cu5, e5⟩ := Kd.R_slice HO5.out; subst e5))
        go_roundw
        case rel =>
          refine ⟨i + 1, out ++ [x], Au5, cu5, by go_num, by simp, by omega, by simp; omega, ⟨?_⟩, HO5, HRL5, HB5⟩
          rw [← HK.out, HS.out]; rfl
        case measure => simp [intOf]; omega
    · go_wp2
      go_ret
      refine ⟨_, rfl, ?_, HBr.out⟩
      obtain rfl : i = L.length := by omega
      have := HK.out
      rw [List.drop_length] at this
      rw [← this]
      exact HU.out
end
def nodeset_Least.f (l0 : List Int) : Option (List Int) := if l0.length < 17592186044416 then some (YtfkpimjiaijmgaaV.leastL l0) else none
theorem nodeset_Least.calls (A0 : Option Addr) (c0 : Nat) (l0 : List Int) (r : List Int) (w : World) (hr0 : Kd.C (Kd.int .i64) w A0 l0.length l0) (hc0 : l0.length ≤ c0) (h : nodeset_Least.f l0 = some r) :
    Calls Try.prog 45 #[.slice A0 l0.length c0] w fun e w' => ∃ v1_ : Value, e = .returned v1_ ∧ Kd.R (Kd.int .i64) 3 w' w.heap.size (fun _ => True) v1_ r ∧ Below w.heap.size w w' := by
  unfold nodeset_Least.f at h
  split at h
  · rename_i hl
    rw [← Option.some.inj h, ← YtfkpimjiaijmgaaV.keepG_least]
    exact least_walk A0 c0 l0 w hr0 hc0 hl
  · simp at h

end Go.Proofs.Ytfkpimjiaijmgaa.G
