/- SlicesEquivalent: the texts of the claim, put together (part 7 of 7). The law is proved in the last one: it takes no condition beyond the statement's own. -/
import Derived.Test.YtfkpimjiaijmgaaRows
import Derived.WalkKit
import Derived.ProofKit
import Derived.OpenShut
import Derived.ShutString
import Derived.ChangeOld
import Derived.Below
import Derived.SizedLaws
import Derived.Test.YtfkpimjiaijmgaaCSlicesEquivalent5
section
namespace Go.Proofs.Ytfkpimjiaijmgaa.Q
open Go.RowKit Go.Proofs.Ytfkpimjiaijmgaa.G Go.Proofs.YtfkpimjiaijmgaaW.PrintWords Go.Proofs.YtfkpimjiaijmgaaW.PrintLast Go.Proofs.YtfkpimjiaijmgaaW.PrintMore Go.Proofs.YtfkpimjiaijmgaaV
set_option linter.unusedVariables false
theorem sign_eq (a b : Int) : trustquorumref04_sign.f a b = some (sgn a b) := by
 unfold trustquorumref04_sign.f sgn
 rcases Int.lt_trichotomy a b with h | h | h
 ·simp [h]
 ·subst h; simp
 ·simp [h, show ¬ a < b by omega]; try omega
theorem cmpL_end {l m : List Int} (h : l = [] ∨ m = []) : cmpL l m = sgn l.length m.length := by
 cases l <;> cases m <;> simp_all [cmpL, sgn] <;> omega
theorem cmpTs_end {l m : List TT} (h : l = [] ∨ m = []) : cmpTs l m = sgn l.length m.length := by
 cases l <;> cases m <;> simp_all [cmpTs, sgn] <;> omega
theorem sgn_drop {α β : Type} (l : List α) (m : List β) (i : Nat) (h1 : i ≤ l.length) (h2 : i ≤ m.length) : sgn (l.drop i).length (m.drop i).length = sgn l.length m.length := by
 rw [List.length_drop, List.length_drop]
 unfold sgn
 split <;> split <;> (try split) <;> (try split) <;> omega
theorem rdT_at (xs : List TT) (i : Nat) (h : i < xs.length) : rd_T27 xs (i : Int) = xs[i] := by
 unfold rd_T27; rw [Int.toNat_natCast, List.getD_eq_getElem?_getD, List.getElem?_eq_getElem h]; rfl
theorem rdI_at (xs : List Int) (i : Nat) (h : i < xs.length) : rd xs (i : Int) = xs[i] := by
 unfold rd; rw [Int.toNat_natCast, List.getD_eq_getElem?_getD, List.getElem?_eq_getElem h]; rfl
theorem cmp_l1 {a : Int} {l : List Int} {ts : List TT} {b : Int} {m : List Int} {us : List TT} (h1 : ts.length < 4611686018427387904) (h2 : us.length < 4611686018427387904)
 (ih : ∀ x ∈ ts, ∀ y ∈ us, Ev (fun k => trustquorumref04_Compare.f k x.f0 x.f1 x.f2 y.f0 y.f1 y.f2) (cmpT x y)) :
 ∀ (d i : Nat), i + d = ts.length → i ≤ us.length → Ev (fun k => trustquorumref04_Compare.l1 k (i : Int) a l ts b m us) (cmpTs (ts.drop i) (us.drop i)) := by
 intro d
 induction d with
 | zero =>
  intro i hi hu
  refine Ev.step (fun k => rfl) (Ev.step (f := fun k => some (cmpTs (ts.drop i) (us.drop i))) (fun k => ?_) (Ev.now _))
  have hd : ts.drop i = [] := by rw [List.drop_eq_nil_iff]; omega
  rw [trustquorumref04_Compare.l1, if_neg (by omega), trustquorumref04_Compare.j3, if_neg (by decide), sign_eq, cmpTs_end (.inl hd), sgn_drop ts us i (by omega) hu]; rfl
 | succ d ihd =>
  intro i hi hu
  by_cases hlt : i < us.length
  ·have hw : wrap64 ((i : Int) + 1) = ((i + 1 : Nat) : Int) := by unfold wrap64; omega
   have e := ih ts[i] (List.getElem_mem _) us[i] (List.getElem_mem _)
   have e2 := ihd (i + 1) (by omega) (by omega)
   rw [List.drop_eq_getElem_cons (show i < ts.length by omega), List.drop_eq_getElem_cons hlt, cmpTs]
   refine Ev.step (fun k => rfl) ?_
   refine Ev.step (f := fun k => (trustquorumref04_Compare.f k ts[i].f0 ts[i].f1 ts[i].f2 us[i].f0 us[i].f1 us[i].f2).bind fun c => if c = 0 then trustquorumref04_Compare.l1 k ((i + 1 : Nat) : Int) a l ts b m us else some c) (fun k => ?_) (Ev.bind e ?_)
   ·rw [trustquorumref04_Compare.l1, if_pos (by omega), trustquorumref04_Compare.j3, if_pos (by simpa using hlt), if_pos (by omega), if_pos (by omega), if_pos (by omega), rdT_at ts i (by omega), rdT_at us i hlt, hw]
   ·unfold lex
    split
    ·exact e2
    ·exact Ev.now _
  ·refine Ev.step (fun k => rfl) (Ev.step (f := fun k => some (cmpTs (ts.drop i) (us.drop i))) (fun k => ?_) (Ev.now _))
   have hd : us.drop i = [] := by rw [List.drop_eq_nil_iff]; omega
   rw [trustquorumref04_Compare.l1, if_pos (by omega), trustquorumref04_Compare.j3, if_neg (by simpa using hlt), sign_eq, cmpTs_end (.inr hd), sgn_drop ts us i (by omega) hu]; rfl
theorem cmp_l0 {a : Int} {l : List Int} {ts : List TT} {b : Int} {m : List Int} {us : List TT} (h1 : l.length < 4611686018427387904) (h2 : m.length < 4611686018427387904) (e1 : Ev (fun k => trustquorumref04_Compare.l1 k 0 a l ts b m us) (cmpTs ts us)) :
 ∀ (d i : Nat), i + d = l.length → i ≤ m.length → Ev (fun k => trustquorumref04_Compare.l0 k (i : Int) a l ts b m us) (lex (cmpL (l.drop i) (m.drop i)) (cmpTs ts us)) := by
 have last : ∀ i : Nat, i ≤ l.length → i ≤ m.length → (l.drop i = [] ∨ m.drop i = []) → Ev (fun k => (trustquorumref04_sign.f (l.length : Int) (m.length : Int)).bind fun t => if t = 0 then trustquorumref04_Compare.l1 k 0 a l ts b m us else some t) (lex (cmpL (l.drop i) (m.drop i)) (cmpTs ts us)) := by
  intro i hi hm hd
  rw [cmpL_end hd, sgn_drop l m i hi hm]
  refine Ev.congr (f := fun k => if sgn (l.length : Int) (m.length : Int) = 0 then trustquorumref04_Compare.l1 k 0 a l ts b m us else some (sgn (l.length : Int) (m.length : Int))) (fun k => by rw [sign_eq]; rfl) ?_
  unfold lex
  split
  ·exact e1
  ·exact Ev.now _
 intro d
 induction d with
 | zero =>
  intro i hi hu
  refine Ev.step (fun k => rfl) (Ev.step (fun k => ?_) (last i (by omega) hu (.inl (by rw [List.drop_eq_nil_iff]; omega))))
  rw [trustquorumref04_Compare.l0, if_neg (by omega), trustquorumref04_Compare.j1, if_neg (by decide)]
 | succ d ihd =>
  intro i hi hu
  by_cases hlt : i < m.length
  ·have hw : wrap64 ((i : Int) + 1) = ((i + 1 : Nat) : Int) := by unfold wrap64; omega
   have e2 := ihd (i + 1) (by omega) (by omega)
   rw [List.drop_eq_getElem_cons (show i < l.length by omega), List.drop_eq_getElem_cons hlt, cmpL]
   refine Ev.step (fun k => rfl) ?_
   refine Ev.step (f := fun k => if sgn l[i] m[i] = 0 then trustquorumref04_Compare.l0 k ((i + 1 : Nat) : Int) a l ts b m us else some (sgn l[i] m[i])) (fun k => ?_) ?_
   ·rw [trustquorumref04_Compare.l0, if_pos (by omega), trustquorumref04_Compare.j1, if_pos (by simpa using hlt), if_pos (by omega), if_pos (by omega), if_pos (by omega), rdI_at l i (by omega), rdI_at m i hlt, hw, sign_eq]; rfl
   ·by_cases hz : sgn l[i] m[i] = 0
    ·simp only [hz, if_true, lex]
     exact e2
    ·simp only [hz, if_false, lex]
     exact Ev.now _
  ·refine Ev.step (fun k => rfl) (Ev.step (fun k => ?_) (last i (by omega) hu (.inr (by rw [List.drop_eq_nil_iff]; omega))))
   rw [trustquorumref04_Compare.l0, if_pos (by omega), trustquorumref04_Compare.j1, if_neg (by simpa using hlt)]
theorem size_len (t : TT) : t.f1.length ≤ sizeT t ∧ t.f2.length ≤ sizeT t := by
 rw [size_sub t]; omega
theorem size_mem {t : TT} : ∀ {ts : List TT}, t ∈ ts → sizeT t ≤ sumS ts
 | x :: r, h => by
  rw [sum_cons]
  rcases List.mem_cons.1 h with h | h
  ·rw [h]; omega
  ·have := size_mem h; omega
theorem cmp_ev : ∀ x y : TT, sizeT x < 4611686018427387904 → sizeT y < 4611686018427387904 → Ev (fun k => trustquorumref04_Compare.f k x.f0 x.f1 x.f2 y.f0 y.f1 y.f2) (cmpT x y) := tt_ind fun a l ts ih y hx hy => by
 obtain ⟨b, m, us⟩ := y
 have s1 := size_len ⟨a, l, ts⟩
 have s2 := size_len ⟨b, m, us⟩
 have t1 := size_sub ⟨a, l, ts⟩
 have t2 := size_sub ⟨b, m, us⟩
 simp only at s1 s2 t1 t2
 have e1 := cmp_l1 (a := a) (l := l) (ts := ts) (b := b) (m := m) (us := us) (by omega) (by omega) (fun x h z h' => ih x h z (by have := size_mem h; omega) (by have := size_mem h'; omega)) ts.length 0 (by omega) (Nat.zero_le _)
 have e0 := cmp_l0 (a := a) (b := b) (by omega) (by omega) e1 l.length 0 (by omega) (Nat.zero_le _)
 refine Ev.step (f := fun k => if sgn a b = 0 then trustquorumref04_Compare.l0 k 0 a l ts b m us else some (sgn a b)) (fun k => ?_) ?_
 ·show trustquorumref04_Compare.f (k + 1) a l ts b m us = _
  rw [trustquorumref04_Compare.f, sign_eq]; rfl
 ·rw [cmpT]
  by_cases hz : sgn a b = 0
  ·simp only [hz, if_true, lex]
   exact e0
  ·simp only [hz, if_false, lex]
   exact Ev.now _
theorem withL_ev {t : TT} (ht : sizeT t < 4611686018427387904) : ∀ {l : List TT}, (∀ x ∈ l, sizeT x < 4611686018427387904) → Ev (fun k => rwithL k t l) (decide (t ∈ l))
 | [], _ => Ev.now _
 | x :: r, h => by
  have ih := withL_ev ht (l := r) (fun y hy => h y (List.mem_cons_of_mem _ hy))
  refine Ev.congr (f := fun k => (trustquorumref04_Compare.f k x.f0 x.f1 x.f2 t.f0 t.f1 t.f2).bind fun c => if c = 0 then some true else rwithL k t r) (fun k => rfl) (Ev.bind (cmp_ev x t (h x (List.mem_cons_self ..)) ht) ?_)
  by_cases hz : cmpT x t = 0
  ·have : x = t := cmpT_zero.1 hz
   subst this
   simp only [hz, if_true, List.mem_cons, true_or, decide_true]
   exact Ev.now _
  ·have hne : ¬ t = x := fun he => hz (by rw [he]; exact cmpT_self x)
   simp only [hz, if_false, List.mem_cons, hne, false_or]
   exact ih
theorem with_ev {l : List TT} {t : TT} (hl : l.length < 1073741824) (ht : sizeT t < 4611686018427387904) (h : ∀ x ∈ l, sizeT x < 4611686018427387904) : Ev (fun k => trustquorumref04_with.f k l t.f0 t.f1 t.f2) (addT l t) := by
 refine Ev.congr (f := fun k => (rwithL k t l).bind fun b => some (if b = true then l else l ++ [t])) (fun k => by unfold trustquorumref04_with.f; rw [if_pos hl]; cases t; rw [rwith]) (Ev.bind (withL_ev ht h) ?_)
 unfold addT
 by_cases hm : t ∈ l
 ·simp only [hm, decide_true, if_true]; exact Ev.now _
 ·simp only [hm, decide_false, if_false]; exact Ev.now _
theorem rsN_ev {ns : List Int} (hh : ∀ i : Nat, i < 10 → Ev (fun k => trustquorumref04_has.f k ns (i : Int)) (decide ((i : Int) ∈ ns))) : ∀ (d i : Nat) (o : List Int), i + d = 10 → Ev (fun k => rsN k ns d i o) (o ++ (((List.range' i d).map Int.ofNat).filter fun k => decide (k ∈ ns)))
 | 0, i, o, _ => by simpa [rsN] using Ev.now o
 | d + 1, i, o, h => by
  refine Ev.congr (f := fun k => (trustquorumref04_has.f k ns (i : Int)).bind fun b => rsN k ns d (i + 1) (if b = true then o ++ [(i : Int)] else o)) (fun k => rfl) (Ev.bind (hh i (by omega)) ?_)
  have ih := rsN_ev hh d (i + 1) (if decide ((i : Int) ∈ ns) = true then o ++ [(i : Int)] else o) (by omega)
  rw [List.range'_succ, List.map_cons]
  by_cases hm : (i : Int) ∈ ns
  ·simp only [hm, decide_true, if_true] at ih ⊢
   rw [List.filter_cons_of_pos (by simpa using hm)]
   rw [List.append_assoc] at ih
   exact ih
  ·simp only [hm, decide_false] at ih ⊢
   rw [List.filter_cons_of_neg (by simpa using hm)]
   exact ih
theorem has_l {ns : List Int} {x : Int} (hl : ns.length < 4611686018427387904) : ∀ (d i : Nat), i + d = ns.length → Ev (fun k => trustquorumref04_has.l0 k x ns (ns.length : Int) (i : Int)) (decide (x ∈ ns.drop i))
 | 0, i, h => by
  have hd : ns.drop i = [] := by rw [List.drop_eq_nil_iff]; omega
  rw [hd]
  refine Ev.step (f := fun k => some false) (fun k => ?_) (by simpa using Ev.now false)
  rw [trustquorumref04_has.l0, if_neg (by omega)]
 | d + 1, i, h => by
  have hw : wrap64 ((i : Int) + 1) = ((i + 1 : Nat) : Int) := by unfold wrap64; omega
  have ih := has_l (x := x) hl d (i + 1) (by omega)
  rw [List.drop_eq_getElem_cons (show i < ns.length by omega)]
  refine Ev.step (f := fun k => if ns[i] = x then some true else trustquorumref04_has.l0 k x ns (ns.length : Int) ((i + 1 : Nat) : Int)) (fun k => ?_) ?_
  ·rw [trustquorumref04_has.l0, if_pos (by omega), if_pos (by omega), if_pos (by omega), rdI_at ns i (by omega), hw]
  ·by_cases he : ns[i] = x
   ·simp only [he, if_true, List.mem_cons, true_or, decide_true]; exact Ev.now _
   ·simp only [he, if_false, List.mem_cons, show ¬ x = ns[i] from fun h => he h.symm, false_or]; exact ih
theorem has_ev {ns : List Int} (hl : ns.length < 4611686018427387904) (x : Int) : Ev (fun k => trustquorumref04_has.f k ns x) (decide (x ∈ ns)) := has_l hl ns.length 0 (by omega)
theorem sortN_ev {ns : List Int} (hl : ns.length < 4611686018427387904) : Ev (fun k => rsN k ns 10 0 []) (sortN ns) := by
 have h := rsN_ev (fun i _ => has_ev hl (i : Int)) 10 0 [] rfl
 rw [List.nil_append, ← List.range_eq_range'] at h
 exact h
def posT (x : TT) (xs : List TT) : Nat → Nat
 | 0 => 0
 | j + 1 => if 0 < cmpT (rd_T27 xs (j : Int)) x then posT x xs j else j + 1
theorem pos_ev {x : TT} {xs : List TT} (hx : sizeT x < 4611686018427387904) (h : ∀ y ∈ xs, sizeT y < 4611686018427387904) : ∀ j, j ≤ xs.length → Ev (fun k => rsPos k x xs j) (posT x xs j)
 | 0, _ => Ev.now _
 | j + 1, hj => by
  have ih := pos_ev hx h j (by omega)
  have e := cmp_ev (rd_T27 xs (j : Int)) x (by rw [rdT_at xs j (by omega)]; exact h _ (List.getElem_mem _)) hx
  refine Ev.congr (fun k => rfl) (Ev.bind e ?_)
  unfold posT
  split
  ·exact ih
  ·exact Ev.now _
theorem pos_le (x : TT) (xs : List TT) : ∀ j, posT x xs j ≤ j
 | 0 => Nat.le_refl _
 | j + 1 => by
  unfold posT
  split
  ·have := pos_le x xs j; omega
  ·omega
theorem pos_hi {x : TT} {xs : List TT} : ∀ {j i : Nat}, posT x xs j ≤ i → i < j → 0 < cmpT (rd_T27 xs (i : Int)) x
 | j + 1, i, h, hi => by
  unfold posT at h
  split at h
  ·rename_i hc
   by_cases he : i = j
   ·subst he; exact hc
   ·exact pos_hi h (by omega)
  ·omega
theorem pos_lo {x : TT} {xs : List TT} : ∀ {j : Nat}, 0 < posT x xs j → cmpT (rd_T27 xs ((posT x xs j - 1 : Nat) : Int)) x ≤ 0
 | j + 1, h => by
  unfold posT at h ⊢
  split
  ·rename_i hc
   rw [if_pos hc] at h
   exact pos_lo h
  ·rename_i hc
   rw [Nat.add_sub_cancel]; omega
theorem ins_sorted {x : TT} {xs : List TT} (hs : xs.Pairwise fun a b => leT a b = true) : (xs.take (posT x xs xs.length) ++ x :: xs.drop (posT x xs xs.length)).Pairwise fun a b => leT a b = true := by
 have hp := pos_le x xs xs.length
 obtain ⟨p, hpe⟩ : ∃ p, p = posT x xs xs.length := ⟨_, rfl⟩
 have hi : ∀ i, p ≤ i → i < xs.length → 0 < cmpT (rd_T27 xs (i : Int)) x := fun i h1 h2 => pos_hi (by rw [← hpe]; exact h1) h2
 have lo : 0 < p → cmpT (rd_T27 xs ((p - 1 : Nat) : Int)) x ≤ 0 := fun h => by rw [hpe] at h ⊢; exact pos_lo h
 rw [← hpe] at hp ⊢
 clear hpe
 have hx : ∀ b ∈ xs.drop p, leT x b = true := by
  intro b hb
  obtain ⟨i, hil, rfl⟩ := List.getElem_of_mem hb
  rw [List.length_drop] at hil
  have := hi (p + i) (by omega) (by omega)
  rw [rdT_at xs (p + i) (by omega)] at this
  rw [List.getElem_drop, leT_iff, cmpT_neg]
  omega
 have hy : ∀ a ∈ xs.take p, leT a x = true := by
  intro a ha
  obtain ⟨i, hil, rfl⟩ := List.getElem_of_mem ha
  rw [List.length_take] at hil
  have h1 := lo (by omega)
  rw [rdT_at xs (p - 1) (by omega), ← leT_iff] at h1
  rw [List.getElem_take]
  by_cases he : i = p - 1
  ·subst he; exact h1
  ·exact leT_trans _ _ _ (List.pairwise_iff_getElem.1 hs i (p - 1) (by omega) (by omega) (by omega)) h1
 have hs2 := hs
 rw [← List.take_append_drop p xs, List.pairwise_append] at hs2
 rw [List.pairwise_append]
 refine ⟨hs2.1, List.pairwise_cons.2 ⟨hx, hs2.2.1⟩, fun a ha b hb => ?_⟩
 rcases List.mem_cons.1 hb with hb | hb
 ·rw [hb]; exact hy a ha
 ·exact hs2.2.2 a ha b hb
theorem ins_perm (x : TT) (xs : List TT) (p : Nat) : (xs.take p ++ x :: xs.drop p).Perm (x :: xs) := by
 have := @List.perm_middle _ x (xs.take p) (xs.drop p)
 rwa [List.take_append_drop] at this
theorem rsI_ev : ∀ (l xs : List TT), (∀ y ∈ l, sizeT y < 4611686018427387904) → (∀ y ∈ xs, sizeT y < 4611686018427387904) → xs.Pairwise (fun a b => leT a b = true) → ∃ r, Ev (fun k => rsI k l xs) r ∧ r.Pairwise (fun a b => leT a b = true) ∧ r.Perm (l ++ xs)
 | [], xs, _, _, hs => ⟨xs, Ev.now _, hs, List.Perm.refl _⟩
 | x :: l, xs, hl, hx, hs => by
  have hpm := ins_perm x xs (posT x xs xs.length)
  obtain ⟨r, h1, h2, h3⟩ := rsI_ev l _ (fun y hy => hl y (List.mem_cons_of_mem _ hy)) (fun y hy => by
   rcases List.mem_cons.1 (hpm.mem_iff.1 hy) with h | h
   ·rw [h]; exact hl x (List.mem_cons_self ..)
   ·exact hx y h) (ins_sorted (x := x) hs)
  refine ⟨r, Ev.congr (fun k => rfl) (Ev.bind (pos_ev (hl x (List.mem_cons_self ..)) hx xs.length (Nat.le_refl _)) h1), h2, h3.trans ?_⟩
  exact ((List.Perm.append_left l hpm).trans List.perm_middle)
theorem sorted_one : ∀ {l m : List TT}, l.Pairwise (fun a b => leT a b = true) → m.Pairwise (fun a b => leT a b = true) → l.Perm m → l = m
 | [], m, _, _, h => (List.Perm.nil_eq h)
 | x :: l, [], _, _, h => absurd h.length_eq (by simp)
 | x :: l, y :: m, h1, h2, h => by
  have hx : x ∈ y :: m := h.mem_iff.1 (List.mem_cons_self ..)
  have hy : y ∈ x :: l := h.mem_iff.2 (List.mem_cons_self ..)
  rw [List.pairwise_cons] at h1 h2
  have he : x = y := by
   rcases List.mem_cons.1 hx with hx | hx
   ·exact hx
   ·rcases List.mem_cons.1 hy with hy | hy
    ·exact hy.symm
    ·exact leT_anti (h1.1 y hy) (h2.1 x hx)
  subst he
  rw [sorted_one h1.2 h2.2 (List.Perm.cons_inv h)]
theorem sortT_sorted (l : List TT) : (sortT l).Pairwise (fun a b => leT a b = true) := List.pairwise_mergeSort leT_trans leT_total l
theorem sortT_ev {l : List TT} (hl : ∀ y ∈ l, sizeT y < 4611686018427387904) : Ev (fun k => rsI k l []) (sortT l) := by
 obtain ⟨r, h1, h2, h3⟩ := rsI_ev l [] hl (fun _ h => by simp at h) List.Pairwise.nil
 rw [List.append_nil] at h3
 rw [sorted_one (sortT_sorted l) h2 ((sortT_perm l).trans h3.symm)]
 exact h1
theorem sorted_ev {a : Int} {ns : List Int} {is : List TT} (h1 : ns.length < 4611686018427387904) (h2 : is.length < 1073741824) (h3 : ∀ y ∈ is, sizeT y < 4611686018427387904) : Ev (fun k => trustquorumref04_sorted.f k a ns is) (a, sortN ns, sortT is) := by
 refine Ev.congr (f := fun k => (rsN k ns 10 0 []).bind fun ns => (rsI k is []).bind fun is => some (a, ns, is)) (fun k => by unfold trustquorumref04_sorted.f; rw [if_pos h2]) (Ev.bind (sortN_ev h1) (Ev.bind (sortT_ev h3) (Ev.now _)))
theorem addT_mem {P : TT → Prop} {is : List TT} {x : TT} (h : ∀ y ∈ is, P y) (hx : P x) : ∀ y ∈ addT is x, P y := by
 intro y hy
 rcases mem_addT.1 hy with h' | h'
 ·exact h y h'
 ·rw [h']; exact hx
theorem addT_ln (is : List TT) (x : TT) : (addT is x).length ≤ is.length + 1 := by
 unfold addT; split <;> simp
theorem mer_l2 {all : Bool} {ts : List TT} {n : Int} {j : Nat} {a : Int} {ns : List Int} {us : List TT} {r : Int × List Int × List TT} (hl : us.length < 4611686018427387904) (hus : ∀ y ∈ us, sizeT y < 4611686018427387904) (hw : wrap64 ((j : Int) + 1) = ((j + 1 : Nat) : Int)) :
 ∀ (d i : Nat) (is : List TT), i + d = us.length → is.length + d < 1073741824 → (∀ y ∈ is, sizeT y < 4611686018427387904) → Ev (fun k => trustquorumref04_merged.l0 k all ts n ((j + 1 : Nat) : Int) a ns ((us.drop i).foldl addT is)) r →
  Ev (fun k => trustquorumref04_merged.l2 k all ts n (j : Int) us (us.length : Int) (i : Int) a ns is) r
 | 0, i, is, h, _, _, e => by
  have hd : us.drop i = [] := by rw [List.drop_eq_nil_iff]; omega
  rw [hd] at e
  refine Ev.step (fun k => ?_) e
  rw [trustquorumref04_merged.l2, if_neg (by omega), hw]; rfl
 | d + 1, i, is, h, hb, hs, e => by
  have hi : i < us.length := by omega
  have hw2 : wrap64 ((i : Int) + 1) = ((i + 1 : Nat) : Int) := by unfold wrap64; omega
  rw [List.drop_eq_getElem_cons hi, List.foldl_cons] at e
  have hx := hus _ (List.getElem_mem hi)
  have ha := addT_ln is us[i]
  have ih := mer_l2 hl hus hw d (i + 1) (addT is us[i]) (by omega) (by omega) (addT_mem hs hx) e
  refine Ev.step (f := fun k => (trustquorumref04_with.f k is us[i].f0 us[i].f1 us[i].f2).bind fun t => trustquorumref04_merged.l2 k all ts n (j : Int) us (us.length : Int) ((i + 1 : Nat) : Int) a ns t) (fun k => ?_) (Ev.bind (with_ev (by omega) hx hs) ih)
  rw [trustquorumref04_merged.l2, if_pos (by omega), if_pos (by omega), if_pos (by omega), rdT_at us i hi, hw2]
theorem addN_ln (ns : List Int) (x : Int) : (addN ns x).length ≤ ns.length + 1 := by
 unfold addN; split <;> simp
theorem mer_l1 {all : Bool} {ts : List TT} {n : Int} {j : Nat} {a : Int} {l : List Int} {is : List TT} {b : Int} {us : List TT} {r : Int × List Int × List TT} (hl : l.length < 4611686018427387904) :
 ∀ (d i : Nat) (ns : List Int), i + d = l.length → ns.length + d < 1073741824 → Ev (fun k => trustquorumref04_merged.l2 k all ts n (j : Int) us (us.length : Int) 0 a ((l.drop i).foldl addN ns) is) r →
  Ev (fun k => trustquorumref04_merged.l1 k all ts n (j : Int) l (l.length : Int) (i : Int) a ns is b l us) r
 | 0, i, ns, h, _, e => by
  have hd : l.drop i = [] := by rw [List.drop_eq_nil_iff]; omega
  rw [hd] at e
  refine Ev.step (fun k => ?_) e
  rw [trustquorumref04_merged.l1, if_neg (by omega)]; rfl
 | d + 1, i, ns, h, hb, e => by
  have hi : i < l.length := by omega
  have hw2 : wrap64 ((i : Int) + 1) = ((i + 1 : Nat) : Int) := by unfold wrap64; omega
  rw [List.drop_eq_getElem_cons hi, List.foldl_cons] at e
  have ha := addN_ln ns l[i]
  have ih := mer_l1 (b := b) hl d (i + 1) (addN ns l[i]) (by omega) (by omega) e
  refine Ev.step (f := fun k => (trustquorumref04_has.f k ns l[i]).bind fun t => if t = true then trustquorumref04_merged.l1 k all ts n (j : Int) l (l.length : Int) ((i + 1 : Nat) : Int) a ns is b l us else trustquorumref04_merged.l1 k all ts n (j : Int) l (l.length : Int) ((i + 1 : Nat) : Int) a (ns ++ [l[i]]) is b l us) (fun k => ?_) (Ev.bind (has_ev (ns := ns) (by omega) l[i]) ?_)
  ·rw [trustquorumref04_merged.l1, if_pos (by omega), if_pos (by omega), if_pos (by omega), rdI_at l i hi, hw2, if_pos (by omega)]
  ·unfold addN at ih
   by_cases hm : l[i] ∈ ns
   ·simp only [hm, if_true, decide_true] at ih ⊢; exact ih
   ·simp only [hm, if_false, decide_false] at ih ⊢; exact ih
def pOf (all : Bool) (x : TT) : Bool := if all = true then allP x else anyP x
theorem count_eq {a : Int} {l : List Int} {ts : List TT} (h : l.length + ts.length < 4611686018427387904) : trustquorumref04_count.f a l ts = some ((l.length + ts.length : Nat) : Int) := by
 have hw : wrap64 ((l.length : Int) + (ts.length : Int)) = ((l.length + ts.length : Nat) : Int) := by unfold wrap64; omega
 unfold trustquorumref04_count.f
 rw [hw]
theorem mer_j {all : Bool} {ts : List TT} {n : Int} {j : Nat} {a : Int} {ns : List Int} {is : List TT} {x : TT} {r : Int × List Int × List TT} (hx : sizeT x < 1073741824) (hw : wrap64 ((j : Int) + 1) = ((j + 1 : Nat) : Int)) (hb : ns.length + is.length + sizeT x + 1 < 1073741824) (hs : ∀ y ∈ is, sizeT y < 4611686018427387904)
 (e : Ev (fun k => trustquorumref04_merged.l0 k all ts n ((j + 1 : Nat) : Int) a (if pOf all x = true then x.f1.foldl addN ns else ns) (if pOf all x = true then x.f2.foldl addT is else addT is x)) r) :
 Ev (fun k => trustquorumref04_merged.j1 k all ts n (j : Int) (!pOf all x) a ns is x.f0 x.f1 x.f2) r := by
 have hsz := size_len x
 have hss := size_sub x
 cases hp : pOf all x with
 | false =>
  rw [hp] at e
  refine Ev.step (f := fun k => (trustquorumref04_with.f k is x.f0 x.f1 x.f2).bind fun t => trustquorumref04_merged.l0 k all ts n ((j + 1 : Nat) : Int) a ns t) (fun k => ?_) (Ev.bind (with_ev (by omega) (by omega) hs) e)
  rw [trustquorumref04_merged.j1, if_pos (show (!false) = true from rfl), hw]
 | true =>
  rw [hp] at e
  refine Ev.step (fun k => ?_) (mer_l1 (b := x.f0) (us := x.f2) (is := is) (by omega) x.f1.length 0 ns (by omega) (by omega) (mer_l2 (by omega) (fun y hy => by have := size_mem hy; omega) hw x.f2.length 0 is (by omega) (by omega) hs e))
  rw [trustquorumref04_merged.j1, if_neg (show ¬ (!true) = true by decide)]; rfl
theorem mer_l0 {all : Bool} {ts : List TT} {a : Int} (hl : ts.length < 1073741824) (hz : ∀ y ∈ ts, sizeT y < 1073741824) :
 ∀ (d j : Nat) (ns : List Int) (is : List TT), j + d = ts.length → ns.length + is.length + (ts.drop j).length + sumS (ts.drop j) < 1073741824 → (∀ y ∈ is, sizeT y < 4611686018427387904) →
  Ev (fun k => trustquorumref04_merged.l0 k all ts (ts.length : Int) (j : Int) a ns is) (if all = true then (((dissS (pOf all) ns is (ts.drop j)).1.length + (dissS (pOf all) ns is (ts.drop j)).2.length : Nat) : Int) else a, dissS (pOf all) ns is (ts.drop j))
 | 0, j, ns, is, h, hb, hs => by
  have hd : ts.drop j = [] := by rw [List.drop_eq_nil_iff]; omega
  rw [hd] at hb ⊢
  simp only [dissS]
  refine Ev.step (f := fun k => some (if all = true then ((ns.length + is.length : Nat) : Int) else a, ns, is)) (fun k => ?_) (Ev.now _)
  rw [trustquorumref04_merged.l0, if_neg (by omega), count_eq (by omega)]
  cases all <;> rfl
 | d + 1, j, ns, is, h, hb, hs => by
  have hj : j < ts.length := by omega
  have hw : wrap64 ((j : Int) + 1) = ((j + 1 : Nat) : Int) := by unfold wrap64; omega
  rw [List.drop_eq_getElem_cons hj] at hb ⊢
  generalize hx : ts[j] = x at hb ⊢
  have hzx : sizeT x < 1073741824 := by rw [← hx]; exact hz _ (List.getElem_mem hj)
  rw [List.length_cons, sum_cons] at hb
  have hss := size_sub x
  have hN := foldN_len x.f1 ns
  have hT := foldT_len x.f2 is
  have ha := addT_ln is x
  have hT2 : (x.f2.foldl addT is).length ≤ is.length + x.f2.length := by
   clear hT ha hb hs hN
   generalize x.f2 = us
   induction us generalizing is with
   | nil => simp
   | cons u us ih => have := ih (addT is u); have := addT_ln is u; simp only [List.foldl_cons, List.length_cons]; omega
  have ih := mer_l0 (all := all) (a := a) hl hz d (j + 1) (if pOf all x = true then x.f1.foldl addN ns else ns) (if pOf all x = true then x.f2.foldl addT is else addT is x) (by omega) (by split <;> omega) (by
   intro y hy
   split at hy
   ·rcases mem_foldT.1 hy with h' | h'
    ·exact hs y h'
    ·have := size_mem h'; omega
   ·exact addT_mem hs (by omega) y hy)
  have he : dissS (pOf all) ns is (x :: ts.drop (j + 1)) = dissS (pOf all) (if pOf all x = true then x.f1.foldl addN ns else ns) (if pOf all x = true then x.f2.foldl addT is else addT is x) (ts.drop (j + 1)) := by
   rw [dissS]; split <;> rfl
  rw [he]
  refine Ev.step (fun k => ?_) (mer_j (n := (ts.length : Int)) hzx hw (by omega) hs ih)
  rw [trustquorumref04_merged.l0, if_pos (by omega), if_pos (by omega), if_pos (by omega), rdT_at ts j hj, hx, count_eq (by omega)]
  cases all with
  | true =>
   have : (x.f0 != ((x.f1.length + x.f2.length : Nat) : Int)) = !pOf true x := rfl
   rw [if_pos rfl, ← this]; rfl
  | false =>
   rw [if_neg (by decide)]
   by_cases h1 : x.f0 = 1
   ·have : pOf false x = true := by simp [pOf, anyP, h1]
    rw [if_pos h1, this]; rfl
   ·have : pOf false x = false := by simp [pOf, anyP, h1]
    rw [if_neg h1, this]; rfl
theorem pOf_true : pOf true = allP := by funext x; rfl
theorem pOf_false : pOf false = anyP := by funext x; rfl
theorem merged_ev {all : Bool} {a : Int} {ns : List Int} {is : List TT} (hb : ns.length + is.length + sumS is < 536870912) : Ev (fun k => trustquorumref04_merged.f k a ns is all) (if all = true then (((dissS (pOf all) ns [] is).1.length + (dissS (pOf all) ns [] is).2.length : Nat) : Int) else a, dissS (pOf all) ns [] is) := by
 have h := mer_l0 (all := all) (ts := is) (a := a) (by omega) (fun y hy => by have := size_mem hy; omega) is.length 0 ns [] (by omega) (by simp only [List.drop_zero, List.length_nil]; omega) (fun _ h => by simp at h)
 refine Ev.congr (fun k => ?_) h
 unfold trustquorumref04_merged.f
 rw [Option.bind_some, if_pos (by simp only [List.length_nil]; omega)]; rfl
theorem nor_j2 {a : Int} {ns : List Int} {is : List TT} (h1 : ns.length < 1073741824) (h2 : is.length < 1073741824) (h3 : ∀ y ∈ is, sizeT y < 4611686018427387904) : Ev (fun k => trustquorumref04_normal.j2 k a ns is) ((finT a (sortN ns) (sortT is)).f0, (finT a (sortN ns) (sortT is)).f1, (finT a (sortN ns) (sortT is)).f2) := by
 refine Ev.step (fun k => by rw [trustquorumref04_normal.j2]) (Ev.bind (sorted_ev (by omega) h2 h3) ?_)
 generalize sortN ns = m
 generalize sortT is = us
 rcases us with _ | ⟨x, _ | ⟨y, r⟩⟩
 ·refine Ev.step (f := fun k => some (a, m, [])) (fun k => ?_) (Ev.now _)
  simp [trustquorumref04_normal.j3]
 ·by_cases hm : m = []
  ·subst hm
   refine Ev.step (f := fun k => some (x.f0, x.f1, x.f2)) (fun k => ?_) (by simpa [finT] using Ev.now _)
   simp [trustquorumref04_normal.j3]
   exact ⟨rfl, rfl, rfl⟩
  ·have hl : ¬ (m.length : Int) = 0 := by
    intro h
    exact hm (List.eq_nil_of_length_eq_zero (by omega))
   refine Ev.step (f := fun k => some (a, m, [x])) (fun k => ?_) (by simpa [finT, hm] using Ev.now _)
   simp only [hl, if_false, trustquorumref04_normal.j3]
   rfl
 ·refine Ev.step (f := fun k => some (a, m, x :: y :: r)) (fun k => ?_) (by simpa [finT] using Ev.now _)
  simp [trustquorumref04_normal.j3]
  intro _ h
  omega
theorem nor_end {ts : List TT} {n : Int} {i : Nat} (hi : ¬ (i : Int) < n) {a : Int} {ns : List Int} {is : List TT} (hb : ns.length + is.length + sumS is < 536870912) :
 Ev (fun k => trustquorumref04_normal.l0 k ts n (i : Int) a ns is) ((finT (mergT a ns is).1 (sortN (mergT a ns is).2.1) (sortT (mergT a ns is).2.2)).f0, (finT (mergT a ns is).1 (sortN (mergT a ns is).2.1) (sortT (mergT a ns is).2.2)).f1, (finT (mergT a ns is).1 (sortN (mergT a ns is).2.1) (sortT (mergT a ns is).2.2)).f2) := by
 have hm := merg_size a ns is
 have e2 := nor_j2 (a := (mergT a ns is).1) (ns := (mergT a ns is).2.1) (is := (mergT a ns is).2.2) (by omega) (by omega) (fun y hy => by have := size_mem hy; omega)
 by_cases h1 : a = 1
 ·have hmt : mergT a ns is = (a, dissS anyP ns [] is) := by unfold mergT; rw [if_pos h1]
  have e1 := merged_ev (all := false) (a := a) hb
  rw [pOf_false, if_neg (by decide), ← hmt] at e1
  refine Ev.step (fun k => ?_) (Ev.bind (f := fun n (t : Int × List Int × List TT) => trustquorumref04_normal.j2 n t.1 t.2.1 t.2.2) e1 e2)
  rw [trustquorumref04_normal.l0, if_neg hi, if_pos h1]
 ·by_cases h2 : a = ((ns.length + is.length : Nat) : Int)
  ·have hmt : mergT a ns is = ((((dissS allP ns [] is).1.length + (dissS allP ns [] is).2.length : Nat) : Int), dissS allP ns [] is) := by unfold mergT; rw [if_neg h1, if_pos h2]
   have e1 := merged_ev (all := true) (a := a) hb
   rw [pOf_true, if_pos rfl, ← hmt] at e1
   refine Ev.step (fun k => ?_) (Ev.bind (f := fun n (t : Int × List Int × List TT) => trustquorumref04_normal.j2 n t.1 t.2.1 t.2.2) e1 e2)
   rw [trustquorumref04_normal.l0, if_neg hi, if_neg h1, count_eq (by omega), Option.bind_some, if_pos h2]
  ·have hmt : mergT a ns is = (a, ns, is) := by unfold mergT; rw [if_neg h1, if_neg h2]
   rw [hmt] at e2 ⊢
   refine Ev.step (fun k => ?_) e2
   rw [trustquorumref04_normal.l0, if_neg hi, if_neg h1, count_eq (by omega), Option.bind_some, if_neg h2]
theorem liftS_cons (ns : List Int) (is : List TT) (x : TT) (r : List TT) : liftS ns is (x :: r) = liftS (if lifts ns x = true then ns ++ [x.f1.headD 0] else ns) (if lifts ns x = true then is else is ++ [x]) r := by
 rw [liftS]; split <;> rfl
theorem nor_j1 {ts : List TT} {n : Int} {i : Nat} {a : Int} {ns : List Int} {is : List TT} {x : TT} {r : Int × List Int × List TT} (hw : wrap64 ((i : Int) + 1) = ((i + 1 : Nat) : Int)) (h1 : ns.length < 1073741824) (h2 : is.length < 1073741824)
 (e : Ev (fun k => trustquorumref04_normal.l0 k ts n ((i + 1 : Nat) : Int) a (if lifts ns x = true then ns ++ [x.f1.headD 0] else ns) (if lifts ns x = true then is else is ++ [x])) r) :
 Ev (fun k => trustquorumref04_normal.j1 k ts n (i : Int) (lifts ns x) a ns is x.f0 x.f1 x.f2) r := by
 cases hp : lifts ns x with
 | false =>
  rw [hp] at e
  refine Ev.step (fun k => ?_) e
  rw [trustquorumref04_normal.j1, if_neg (by decide), if_pos (by omega), hw, if_neg (by decide), if_neg (by decide)]; cases x; rfl
 | true =>
  rw [hp] at e
  obtain ⟨c, hc, _, _, hh⟩ := lifts_form hp
  refine Ev.step (fun k => ?_) e
  rw [trustquorumref04_normal.j1, if_pos rfl, if_pos (by rw [hc]; simp), if_pos (by omega), hw, if_pos rfl, if_pos rfl, hh, hc]; rfl
theorem nor_l0 {ts : List TT} {a : Int} (hl : ts.length < 1073741824) (hev : ∀ x ∈ ts, Ev (fun k => trustquorumref04_normal.f k x.f0 x.f1 x.f2) ((normT x).f0, (normT x).f1, (normT x).f2)) :
 ∀ (d i : Nat) (ns : List Int) (is : List TT), i + d = ts.length → ns.length + is.length + sumS is + ((ts.drop i).map normT).length + sumS ((ts.drop i).map normT) < 536870912 →
  Ev (fun k => trustquorumref04_normal.l0 k ts (ts.length : Int) (i : Int) a ns is) ((finT (mergT a (liftS ns is ((ts.drop i).map normT)).1 (liftS ns is ((ts.drop i).map normT)).2).1 (sortN (mergT a (liftS ns is ((ts.drop i).map normT)).1 (liftS ns is ((ts.drop i).map normT)).2).2.1) (sortT (mergT a (liftS ns is ((ts.drop i).map normT)).1 (liftS ns is ((ts.drop i).map normT)).2).2.2)).f0, (finT (mergT a (liftS ns is ((ts.drop i).map normT)).1 (liftS ns is ((ts.drop i).map normT)).2).1 (sortN (mergT a (liftS ns is ((ts.drop i).map normT)).1 (liftS ns is ((ts.drop i).map normT)).2).2.1) (sortT (mergT a (liftS ns is ((ts.drop i).map normT)).1 (liftS ns is ((ts.drop i).map normT)).2).2.2)).f1, (finT (mergT a (liftS ns is ((ts.drop i).map normT)).1 (liftS ns is ((ts.drop i).map normT)).2).1 (sortN (mergT a (liftS ns is ((ts.drop i).map normT)).1 (liftS ns is ((ts.drop i).map normT)).2).2.1) (sortT (mergT a (liftS ns is ((ts.drop i).map normT)).1 (liftS ns is ((ts.drop i).map normT)).2).2.2)).f2)
 | 0, i, ns, is, h, hb => by
  have hd : ts.drop i = [] := by rw [List.drop_eq_nil_iff]; omega
  rw [hd] at hb ⊢
  simp only [List.map_nil, liftS]
  exact nor_end (by omega) (by simp only [List.map_nil, List.length_nil] at hb; omega)
 | d + 1, i, ns, is, h, hb => by
  have hi : i < ts.length := by omega
  have hw : wrap64 ((i : Int) + 1) = ((i + 1 : Nat) : Int) := by unfold wrap64; omega
  rw [List.drop_eq_getElem_cons hi, List.map_cons] at hb ⊢
  have e0 := hev ts[i] (List.getElem_mem hi)
  generalize hx : ts[i] = x at hb e0 ⊢
  rw [List.length_cons, sum_cons] at hb
  generalize hy : normT x = y at hb e0 ⊢
  have hss := size_sub y
  rw [liftS_cons]
  have ih := nor_l0 (a := a) hl hev d (i + 1) (if lifts ns y = true then ns ++ [y.f1.headD 0] else ns) (if lifts ns y = true then is else is ++ [y]) (by omega) (by
   split
   ·rw [List.length_append, List.length_singleton]; omega
   ·rw [List.length_append, List.length_singleton, sum_app]
    have : sumS [y] = sizeT y := by rw [sum_cons]; rfl
    omega)
  have hj := nor_j1 (n := (ts.length : Int)) hw (by omega) (by omega) ih
  refine Ev.step (fun k => ?_) (Ev.bind (f := fun k (t : Int × List Int × List TT) => if (t.2.1.length : Int) = 1 then (if (t.2.2.length : Int) = 0 then (if 0 < (t.2.1.length : Int) then ((trustquorumref04_has.f k ns (rd t.2.1 0)).bind fun b => trustquorumref04_normal.j1 k ts (ts.length : Int) (i : Int) (!b) a ns is t.1 t.2.1 t.2.2) else none) else trustquorumref04_normal.j1 k ts (ts.length : Int) (i : Int) false a ns is t.1 t.2.1 t.2.2) else trustquorumref04_normal.j1 k ts (ts.length : Int) (i : Int) false a ns is t.1 t.2.1 t.2.2) e0 ?_)
  ·rw [trustquorumref04_normal.l0, if_pos (by omega), if_pos (by omega), if_pos (by omega), rdT_at ts i hi, hx]
  ·by_cases c1 : (y.f1.length : Int) = 1
   ·by_cases c2 : (y.f2.length : Int) = 0
    ·simp only [c1, c2, if_true]
     refine Ev.bind (has_ev (ns := ns) (by omega) (rd y.f1 0)) ?_
     have hr : rd y.f1 0 = y.f1.headD 0 := by
      rcases hq : y.f1 with _ | ⟨q, r⟩
      ·rw [hq] at c1; simp at c1
      ·rfl
     have : (!decide (rd y.f1 0 ∈ ns)) = lifts ns y := by
      unfold lifts
      rw [hr, show y.f1.length = 1 by omega, show y.f2.length = 0 by omega]; simp
     rw [this]
     exact hj
    ·have : lifts ns y = false := Bool.eq_false_iff.2 fun hq => by
      obtain ⟨c, hc, hd, _⟩ := lifts_form hq
      rw [hd] at c2
      exact c2 rfl
     rw [this] at hj ⊢
     simp only [c1, c2, if_true, if_false]
     exact hj
   ·have : lifts ns y = false := Bool.eq_false_iff.2 fun hq => by
     obtain ⟨c, hc, hd, _⟩ := lifts_form hq
     rw [hc] at c1
     exact c1 rfl
    rw [this] at hj ⊢
    simp only [c1, if_false]
    exact hj
theorem sumS_norm : ∀ {ts : List TT}, (∀ t ∈ ts, chkT t = 0) → sumS (ts.map normT) ≤ sumS ts
 | [], _ => Nat.le_refl _
 | x :: r, h => by
  rw [List.map_cons, sum_cons, sum_cons]
  have := norm_size x (h x (List.mem_cons_self ..))
  have := sumS_norm (ts := r) (fun t ht => h t (List.mem_cons_of_mem _ ht))
  omega
theorem normal_ev : ∀ t : TT, chkT t = 0 → sizeT t < 536870912 → Ev (fun k => trustquorumref04_normal.f k t.f0 t.f1 t.f2) ((normT t).f0, (normT t).f1, (normT t).f2) := tt_ind fun a l ts ih hc hz => by
 have hz2 := size_sub ⟨a, l, ts⟩
 simp only at hz2
 have hok := (chk_sub hc).1
 have hev : ∀ x ∈ ts, Ev (fun k => trustquorumref04_normal.f k x.f0 x.f1 x.f2) ((normT x).f0, (normT x).f1, (normT x).f2) := fun x hx => ih x hx (hok.3 x hx) (by have := size_mem hx; omega)
 have hs := sumS_norm (ts := ts) (fun t ht => hok.3 t ht)
 have h := nor_l0 (a := a) (ts := ts) (by omega) hev ts.length 0 l [] (by omega) (by
  rw [List.drop_zero, List.length_map, List.length_nil]
  have : sumS ([] : List TT) = 0 := rfl
  omega)
 rw [List.drop_zero] at h
 rw [normT_eq]
 refine Ev.step (fun k => ?_) h
 rw [trustquorumref04_normal.f, Option.bind_some, if_pos (by simp only [List.length_nil]; omega)]; rfl
theorem smd_of : ∀ (d : Nat) (t : TT), depthT t ≤ d → sizeT t ≤ 1000000 → SmD d t
 | 0, t, h, _ => by have := depth_pos t; omega
 | d + 1, ⟨a, l, ts⟩, h, hs => by
  have h2 := size_sub ⟨a, l, ts⟩
  simp only at h2
  exact ⟨⟨by omega, hs⟩, by omega, fun c hc => smd_of d c (depth_le.1 h c hc) (by have := size_mem hc; omega)⟩
theorem Normal_ev {d : Nat} (hd : d ≤ 8) {t : TT} (h : SmD d t) : Ev (fun k => trustquorumref04_Normal.f k t.f0 t.f1 t.f2) (if validT t = 0 then ((normT t).f0, (normT t).f1, (normT t).f2, 0) else (0, [], [], validT t)) := by
 refine Ev.congr (fun k => by unfold trustquorumref04_Normal.f; rfl) (Ev.bind (refvalid_ev hd h) ?_)
 by_cases hv : validT t = 0
 ·simp only [hv, if_true]
  exact Ev.bind (f := fun k (b : Int × List Int × List TT) => some (b.1, b.2.1, b.2.2, (0 : Int))) (normal_ev t (valid_chk hv).1 (by have := (valid_chk hv).2.2; omega)) (Ev.now _)
 ·simp only [hv, if_false]; exact Ev.now _
theorem norm_valid {t : TT} (hv : validT t = 0) : validT (normT t) = 0 := by
 obtain ⟨h1, h2, h3⟩ := valid_chk hv
 have d := norm_depth t
 have s := norm_size t h1
 unfold validT
 rw [if_neg (by omega), if_neg (by omega)]
 exact (norm_both t h1).1
theorem valid_smd {t : TT} (hv : validT t = 0) : SmD 4 t := by
 obtain ⟨h1, h2, h3⟩ := valid_chk hv
 exact smd_of 4 t h2 (by omega)
end Go.Proofs.Ytfkpimjiaijmgaa.Q
end
section
namespace Go.Proofs.Ytfkpimjiaijmgaa.Q
open Go.RowKit Go.Proofs.Ytfkpimjiaijmgaa.G Go.Proofs.YtfkpimjiaijmgaaW.PrintWords Go.Proofs.YtfkpimjiaijmgaaW.PrintLast Go.Proofs.YtfkpimjiaijmgaaW.PrintMore Go.Proofs.YtfkpimjiaijmgaaV
set_option linter.unusedVariables false
theorem tape_Pick {l : List Int} {p : Int} (h : TI l p) (xs : List Int) (hx : 0 < xs.length) (hx2 : xs.length ≤ 4294967296) : ∃ r q, trustquorummake_Tape_Pick.f l p xs = some (r, q) ∧ r ∈ xs ∧ TI l q := by
 unfold trustquorummake_Tape_Pick.f
 obtain ⟨r, q, e, h0, h1, hq⟩ := tape_N h (xs.length : Int) (by omega) (by omega)
 rw [e]
 simp only [Option.bind_some]
 rw [if_pos h0, if_pos h1]
 exact ⟨_, _, rfl, rd_mem h0 h1, hq⟩
/-- Order's second loop: places are exchanged. -/
theorem order_l1 {l : List Int} : ∀ (d : Nat) (xs : List Int) (p : Int) (i : Int), TI l p → i = (d : Int) → (d : Int) < xs.length ∨ d = 0 → xs.length ≤ 1000000 →
 ∃ ys q, Ev (fun k => trustquorummake_Tape_Order.l1 k xs i l p) (ys, q) ∧ ys.Perm xs ∧ TI l q
 | 0, xs, p, i, h, hi, _, _ => ⟨xs, p, Ev.step (f := fun _ => some (xs, p)) (fun k => by simp only [trustquorummake_Tape_Order.l1]; rw [if_neg (by omega)]) (Ev.now _), List.Perm.refl _, h⟩
 | d + 1, xs, p, i, h, hi, hd, hl => by
  have hd' : ((d + 1 : Nat) : Int) < xs.length := by omega
  have w1 : wrap64 (i + 1) = i + 1 := wrap_of (by omega) (by omega)
  have w2 : wrap64 (i - 1) = i - 1 := wrap_of (by omega) (by omega)
  obtain ⟨r, q, e, h0, h1, hq⟩ := tape_N h (i + 1) (by omega) (by omega)
  have hperm := swap_perm xs i.toNat r.toNat (by omega) (by omega)
  obtain ⟨ys, q2, he, hp, hq2⟩ := order_l1 d ((xs.set i.toNat (rd xs r)).set r.toNat (rd xs i)) q (i - 1) hq (by omega) (by simp; omega) (by simpa using hl)
  refine ⟨ys, q2, ?_, hp.trans ?_, hq2⟩
  ·refine Ev.step (f := fun k => trustquorummake_Tape_Order.l1 k ((xs.set i.toNat (rd xs r)).set r.toNat (rd xs i)) (i - 1) l q) (fun k => ?_) he
   simp only [trustquorummake_Tape_Order.l1]
   rw [if_pos (by omega), w1, e]
   simp only [Option.bind_some]
   rw [if_pos h0, if_pos (by omega), if_pos (by omega), if_pos (by omega), w2]
  ·exact hperm
where
 swap_perm (xs : List Int) (i r : Nat) (hi : i < xs.length) (hr : r < xs.length) : ((xs.set i (xs.getD r 0)).set r (xs.getD i 0)).Perm xs := by
  have e1 : xs.getD r 0 = xs[r] := by simp [List.getD, hr]
  have e2 : xs.getD i 0 = xs[i] := by simp [List.getD, hi]
  rw [e1, e2]
  have := List.set_set_perm hi hr
  exact this
theorem order_l0 {l : List Int} (n : Nat) (hn : n ≤ 1000) : ∀ (d i : Nat) (p : Int), i + d = n → TI l p →
 ∃ ys q, Ev (fun k => trustquorummake_Tape_Order.l0 k n ((List.range i).map Int.ofNat) i l p) (ys, q) ∧ ys.Perm ((List.range n).map Int.ofNat) ∧ TI l q
 | 0, i, p, hi, h => by
  obtain rfl : i = n := by omega
  have w2 : wrap64 ((i : Int) - 1) = (i : Int) - 1 := wrap_of (by omega) (by omega)
  cases i with
  | zero =>
   refine ⟨[], p, ?_, List.Perm.refl _, h⟩
   refine Ev.step (f := fun k => trustquorummake_Tape_Order.l1 k [] (-1) l p) (fun k => ?_) ?_
   ·simp only [trustquorummake_Tape_Order.l0]
    rw [if_neg (by omega), w2]; rfl
   ·exact Ev.step (f := fun _ => some ([], p)) (fun k => by simp only [trustquorummake_Tape_Order.l1]; rw [if_neg (by omega)]) (Ev.now _)
  | succ i =>
   obtain ⟨ys, q, he, hp, hq⟩ := order_l1 (l := l) i ((List.range (i + 1)).map Int.ofNat) p (((i + 1 : Nat) : Int) - 1) h (by omega) (by simp; omega) (by simp; omega)
   refine ⟨ys, q, Ev.step (fun k => ?_) he, hp, hq⟩
   simp only [trustquorummake_Tape_Order.l0]
   rw [if_neg (by omega), w2]
 | d + 1, i, p, hi, h => by
  obtain ⟨ys, q, he, hp, hq⟩ := order_l0 n hn d (i + 1) p (by omega) h
  refine ⟨ys, q, Ev.step (fun k => ?_) he, hp, hq⟩
  have w1 : wrap64 ((i : Int) + 1) = ((i + 1 : Nat) : Int) := by rw [wrap_of (by omega) (by omega)]; omega
  simp only [trustquorummake_Tape_Order.l0]
  rw [if_pos (by omega), if_pos (by simp; omega), w1, List.range_succ, List.map_append]; rfl
theorem tape_Order {l : List Int} {p : Int} (h : TI l p) (n : Nat) (hn : n ≤ 1000) : ∃ ys q, Ev (fun k => trustquorummake_Tape_Order.f k l p n) (ys, q) ∧ ys.Perm ((List.range n).map Int.ofNat) ∧ TI l q :=
 order_l0 n hn n 0 p (by omega) h
end Go.Proofs.Ytfkpimjiaijmgaa.Q
end
section
namespace Go.Proofs.Ytfkpimjiaijmgaa.Q
open Go.RowKit Go.Proofs.Ytfkpimjiaijmgaa.G Go.Proofs.YtfkpimjiaijmgaaW.PrintWords Go.Proofs.YtfkpimjiaijmgaaW.PrintLast Go.Proofs.YtfkpimjiaijmgaaW.PrintMore Go.Proofs.YtfkpimjiaijmgaaV
set_option linter.unusedVariables false
theorem mk_l0 {l : List Int} (n a2 : Int) (y : List Int) (hy : y.length ≤ 1073741824) (p : Int) {R : Int × List Int × List TT × Int} (h : Ev (fun k => trustquorummake_trust.l0 k n a2 y y.length (y.length : Nat) l p 0 y) R) : ∀ (d i : Nat), i + d = y.length →
 Ev (fun k => trustquorummake_trust.l0 k n a2 y y.length i l p 0 (y.take i)) R
 | 0, i, hi => by
  obtain rfl : i = y.length := by omega
  rw [List.take_length]; exact h
 | d + 1, i, hi => by
  have hlt : i < y.length := by omega
  refine Ev.step (fun k => ?_) (mk_l0 n a2 y hy p h d (i + 1) (by omega))
  simp only [trustquorummake_trust.l0]
  rw [if_pos (by omega), if_pos (by omega), if_pos (by omega), if_pos (by rw [List.length_take]; omega), up (by omega), rd_get hlt, ← List.take_append_getElem hlt]
theorem mk_l1 {l : List Int} {n : Nat} {a2 : Nat} {y : List Int} (ha : a2 ≤ 100) (hy0 : 1 ≤ y.length) (hy : y.length ≤ 10) (hyn : ∀ x ∈ y, 0 ≤ x ∧ x < (n : Int)) (ih : ∀ p, TI l p → ∃ a ls ts q, Ev (fun k => trustquorummake_trust.f k l p n (a2 : Nat)) (a, ls, ts, q) ∧ SmN n a2 ⟨a, ls, ts⟩ ∧ TI l q) :
 ∀ (r : Nat) (p : Int) (ts : List TT), TI l p → ts.length + r ≤ 3 → (∀ c ∈ ts, SmN n a2 c) →
 ∃ a ls ts' q, Ev (fun k => trustquorummake_trust.l1 k n ((a2 + 1 : Nat) : Int) r l p 0 y ts) (a, ls, ts', q) ∧ SmN n (a2 + 1) ⟨a, ls, ts'⟩ ∧ TI l q
 | 0, p, ts, hp, hts, hs => by
  have w : wrap64 ((y.length : Int) + (ts.length : Int)) = (y.length : Int) + (ts.length : Int) := wrap_of (by omega) (by omega)
  by_cases c : (ts.length : Int) > 0
  ·obtain ⟨b, q, e, b0, b1, hq⟩ := tape_N hp 3 (by omega) (by omega)
   by_cases cb : b = 0
   ·obtain ⟨r, q2, e2, r0, r1, hq2⟩ := tape_Range hq 1 (wrap64 (ts.length : Int)) (by rw [wrap_of (by omega) (by omega)]; omega) (by omega) (by rw [wrap_of (by omega) (by omega)]; omega)
    refine ⟨r, [], ts, q2, Ev.step (f := fun _ => some _) (fun k => ?_) (Ev.now _), ⟨by simp, by omega, by simp, hs⟩, hq2⟩
    simp only [trustquorummake_trust.l1]
    rw [if_neg (by omega), if_pos c, e]
    simp only [Option.bind_some]
    rw [if_pos cb, e2]; rfl
   ·obtain ⟨r, q2, e2, r0, r1, hq2⟩ := tape_Range hq 1 (wrap64 ((y.length : Int) + (ts.length : Int))) (by omega) (by omega) (by omega)
    refine ⟨r, y, ts, q2, Ev.step (f := fun _ => some _) (fun k => ?_) (Ev.now _), ⟨hy, by omega, hyn, hs⟩, hq2⟩
    simp only [trustquorummake_trust.l1]
    rw [if_neg (by omega), if_pos c, e]
    simp only [Option.bind_some]
    rw [if_neg cb, e2]; rfl
  ·obtain ⟨r, q2, e2, r0, r1, hq2⟩ := tape_Range hp 1 (wrap64 ((y.length : Int) + (ts.length : Int))) (by omega) (by omega) (by omega)
   refine ⟨r, y, ts, q2, Ev.step (f := fun _ => some _) (fun k => ?_) (Ev.now _), ⟨hy, by omega, hyn, hs⟩, hq2⟩
   simp only [trustquorummake_trust.l1]
   rw [if_neg (by omega), if_neg c, e2]; rfl
 | r + 1, p, ts, hp, hts, hs => by
  obtain ⟨a, ls, us, q, e, hsm, hq⟩ := ih p hp
  obtain ⟨a', ls', ts', q', e', hsm', hq'⟩ := mk_l1 ha hy0 hy hyn ih r q (ts ++ [⟨a, ls, us⟩]) hq (by simp; omega) (by
   intro c hc
   rcases List.mem_append.1 hc with h | h
   ·exact hs c h
   ·rw [List.mem_singleton.1 h]; exact hsm)
  refine ⟨a', ls', ts', q', ?_, hsm', hq'⟩
  have w1 : wrap64 (((a2 + 1 : Nat) : Int) - 1) = (a2 : Int) := by rw [wrap_of (by omega) (by omega)]; omega
  have w2 : wrap64 (((r + 1 : Nat) : Int) - 1) = (r : Int) := by rw [wrap_of (by omega) (by omega)]; omega
  refine Ev.step (f := fun k => (trustquorummake_trust.f k l p n (a2 : Nat)).bind fun b => trustquorummake_trust.l1 k n ((a2 + 1 : Nat) : Int) r l b.2.2.2 0 y (ts ++ [⟨b.1, b.2.1, b.2.2.1⟩])) (fun k => ?_) (Ev.bind e e')
  simp only [trustquorummake_trust.l1]
  rw [if_pos (by omega), w1, w2]
  simp only [if_pos (show ts.length < 2513169434916 by omega)]
theorem mk_trust {l : List Int} {n : Nat} (h1 : 1 ≤ n) (hn : n ≤ 1000) : ∀ (a2 : Nat), a2 ≤ 100 → ∀ p, TI l p →
 ∃ a ls ts q, Ev (fun k => trustquorummake_trust.f k l p n ((a2 + 1 : Nat) : Int)) (a, ls, ts, q) ∧ SmN n (a2 + 1) ⟨a, ls, ts⟩ ∧ TI l q := by
 intro a2
 induction a2 with
 | zero =>
  intro _ p hp
  obtain ⟨o, q, eo, ho, hq⟩ := tape_Order hp n hn
  have hm : 1 ≤ mn (n : Int) 5 ∧ mn (n : Int) 5 ≤ 5 ∧ mn (n : Int) 5 ≤ n := by unfold mn; split <;> omega
  obtain ⟨m, q2, em, m0, m1, hq2⟩ := tape_Range hq 1 (mn (n : Int) 5) hm.1 (by omega) (by omega)
  have ol : o.length = n := by rw [ho.length_eq]; simp
  have on : ∀ x ∈ o.take m.toNat, 0 ≤ x ∧ x < (n : Int) := fun x hx => by
   have := ho.mem_iff.1 (List.mem_of_mem_take hx)
   obtain ⟨j, hj, rfl⟩ := List.mem_map.1 this
   have := List.mem_range.1 hj
   exact ⟨Int.natCast_nonneg j, by show (j : Int) < n; omega⟩
  have yl : (o.take m.toNat).length = m.toNat := by rw [List.length_take]; omega
  obtain ⟨r, q3, er, r0, r1, hq3⟩ := tape_Range hq2 1 (wrap64 (((o.take m.toNat).length : Int) + (([] : List TT).length : Int))) (by rw [List.length_nil, wrap_of (by omega) (by omega)]; omega) (by omega) (by rw [List.length_nil, wrap_of (by omega) (by omega)]; omega)
  refine ⟨r, o.take m.toNat, [], q3, ?_, ⟨by omega, by simp, on, by simp⟩, hq3⟩
  have hend : Ev (fun k => trustquorummake_trust.l0 k n ((0 + 1 : Nat) : Int) (o.take m.toNat) (o.take m.toNat).length ((o.take m.toNat).length : Nat) l q2 0 (o.take m.toNat)) (r, o.take m.toNat, ([] : List TT), q3) :=
   Ev.step (f := fun _ => some _) (fun k => by
    simp only [trustquorummake_trust.l0]
    rw [if_neg (by omega), if_neg (by omega), er]; rfl) (Ev.now _)
  have h0 := mk_l0 _ _ _ (by omega) _ hend (o.take m.toNat).length 0 (by omega)
  refine Ev.step (f := fun k => (trustquorummake_Tape_Order.f k l p n).bind fun b => (trustquorummake_Tape_Range.f l b.2 1 (mn n 5)).bind fun c => if 0 ≤ c.1 then if c.1 ≤ (b.1.length : Int) then trustquorummake_trust.l0 k n ((0 + 1 : Nat) : Int) (b.1.take c.1.toNat) (b.1.take c.1.toNat).length 0 l c.2 0 [] else none else none) (fun k => by simp only [trustquorummake_trust.f]; rfl) (Ev.bind eo (Ev.congr (fun k => ?_) h0))
  simp only [em, Option.bind_some]
  rw [if_pos (by omega), if_pos (by omega)]; rfl
 | succ a2 ih =>
  intro ha p hp
  obtain ⟨o, q, eo, ho, hq⟩ := tape_Order hp n hn
  have hm : 1 ≤ mn (n : Int) 5 ∧ mn (n : Int) 5 ≤ 5 ∧ mn (n : Int) 5 ≤ n := by unfold mn; split <;> omega
  obtain ⟨m, q2, em, m0, m1, hq2⟩ := tape_Range hq 1 (mn (n : Int) 5) hm.1 (by omega) (by omega)
  have ol : o.length = n := by rw [ho.length_eq]; simp
  have on : ∀ x ∈ o.take m.toNat, 0 ≤ x ∧ x < (n : Int) := fun x hx => by
   have := ho.mem_iff.1 (List.mem_of_mem_take hx)
   obtain ⟨j, hj, rfl⟩ := List.mem_map.1 this
   have := List.mem_range.1 hj
   exact ⟨Int.natCast_nonneg j, by show (j : Int) < n; omega⟩
  have yl : (o.take m.toNat).length = m.toNat := by rw [List.length_take]; omega
  obtain ⟨r, q3, er, hr, hq3⟩ := tape_Pick hq2 [0, 0, 1, 1, 2, 3] (by decide) (by decide)
  have hr3 : 0 ≤ r ∧ r ≤ 3 := by simp at hr; omega
  obtain ⟨r, rfl⟩ := Int.eq_ofNat_of_zero_le hr3.1
  obtain ⟨a, ls, ts, q4, e4, hs4, hq4⟩ := mk_l1 (n := n) (a2 := a2 + 1) (y := o.take m.toNat) (by omega) (by omega) (by omega) on (ih (by omega)) r q3 [] hq3 (by simp; omega) (by simp)
  refine ⟨a, ls, ts, q4, ?_, hs4, hq4⟩
  have hend : Ev (fun k => trustquorummake_trust.l0 k n ((a2 + 1 + 1 : Nat) : Int) (o.take m.toNat) (o.take m.toNat).length ((o.take m.toNat).length : Nat) l q2 0 (o.take m.toNat)) (a, ls, ts, q4) :=
   Ev.step (fun k => by
    simp only [trustquorummake_trust.l0]
    rw [if_neg (by omega), if_pos (by omega), er]; rfl) e4
  have h0 := mk_l0 _ _ _ (by omega) _ hend (o.take m.toNat).length 0 (by omega)
  refine Ev.step (f := fun k => (trustquorummake_Tape_Order.f k l p n).bind fun b => (trustquorummake_Tape_Range.f l b.2 1 (mn n 5)).bind fun c => if 0 ≤ c.1 then if c.1 ≤ (b.1.length : Int) then trustquorummake_trust.l0 k n ((a2 + 1 + 1 : Nat) : Int) (b.1.take c.1.toNat) (b.1.take c.1.toNat).length 0 l c.2 0 [] else none else none) (fun k => by simp only [trustquorummake_trust.f]; rfl) (Ev.bind eo (Ev.congr (fun k => ?_) h0))
  simp only [em, Option.bind_some]
  rw [if_pos (by omega), if_pos (by omega)]; rfl
theorem valid_one {x : Int} (hx : isNode x = true) : validT ⟨1, [x], []⟩ = 0 := by
 have e : (ofV 0 [x]).2 = 0 := by simp [ofV, hx]
 rw [validT, depthT_eq, sizeT_eq, chkT_eq]
 simp [hx, e, firstT]
theorem mk_Trust {l : List Int} {n : Nat} (h1 : 1 ≤ n) (hn : n ≤ 10) (a2 : Nat) (ha : a2 + 1 ≤ 8) {p : Int} (hp : TI l p) :
 ∃ a ls ts q, Ev (fun k => trustquorummake_Trust.f k l p n ((a2 + 1 : Nat) : Int)) (a, ls, ts, q) ∧ SmN n (a2 + 1) ⟨a, ls, ts⟩ ∧ validT ⟨a, ls, ts⟩ = 0 ∧ TI l q := by
 obtain ⟨a, ls, ts, q, e, hs, hq⟩ := mk_trust h1 (by omega) a2 (by omega) p hp
 have hv := refvalid_ev ha hs.smd
 by_cases c : validT ⟨a, ls, ts⟩ = 0
 ·refine ⟨a, ls, ts, q, Ev.bind e (Ev.bind hv (Ev.congr (fun k => ?_) (Ev.now _))), hs, c, hq⟩
  rw [if_pos c]
 ·obtain ⟨r, q2, er, r0, r1, hq2⟩ := tape_N hq (n : Int) (by omega) (by omega)
  have hr : isNode r = true := by simp [isNode]; omega
  refine ⟨1, [r], [], q2, Ev.bind e (Ev.bind hv (Ev.congr (fun k => ?_) (Ev.now _))), ⟨by simp, by simp, by simp; omega, by simp⟩, valid_one hr, hq2⟩
  simp only [if_neg c, er]; rfl
end Go.Proofs.Ytfkpimjiaijmgaa.Q
end
section
namespace Go.Proofs.Ytfkpimjiaijmgaa.Q
open Go.RowKit Go.Proofs.Ytfkpimjiaijmgaa.G Go.Proofs.YtfkpimjiaijmgaaW.PrintWords Go.Proofs.YtfkpimjiaijmgaaW.PrintLast Go.Proofs.YtfkpimjiaijmgaaW.PrintMore Go.Proofs.YtfkpimjiaijmgaaV
set_option linter.unusedVariables false
theorem ev_list {ι α : Type} {g : ι → Nat → Option α} {r : ι → α} : ∀ {l : List ι}, (∀ s ∈ l, Ev (g s) (r s)) → ∃ K, ∀ k, K ≤ k → ∀ s ∈ l, g s k = some (r s)
 | [], _ => ⟨0, fun _ _ s hs => by cases hs⟩
 | x :: l, h => by
  obtain ⟨K, hK⟩ := ev_list (l := l) fun s hs => h s (List.mem_cons_of_mem _ hs)
  obtain ⟨M, hM⟩ := h x (List.mem_cons_self ..)
  refine ⟨max K M, fun k hk s hs => ?_⟩
  rcases List.mem_cons.1 hs with rfl | hs
  ·exact hM k (by omega)
  ·exact hK k (by omega) s hs
theorem ev_filterO {ι : Type} {g : ι → Nat → Option Bool} {r : ι → Bool} {l : List ι} (h : ∀ s ∈ l, Ev (g s) (r s)) : Ev (fun k => filterO (fun s => g s k) l) (l.filter r) := by
 obtain ⟨K, hK⟩ := ev_list h
 exact ⟨K, fun k hk => filterO_of (hK k hk)⟩
def setsOf (p : Fin 1024 → Bool) : List Int := (allF.filter p).map fun s => (s.1 : Int)
def minsT (t : TT) : List Int := leastL (setsOf fun s => satT t (s.1 : Int))
theorem slices_ev {d : Nat} (hd : d ≤ 8) {t : TT} (h : SmD d t) (hv : validT t = 0) : Ev (fun k => slices_Slices.f k t.f0 t.f1 t.f2) (minsT t, 0) := by
 refine Ev.congr (fun k => by unfold slices_Slices.f; rfl) (Ev.bind (valid_ev hd h) ?_)
 rw [hv]
 exact Ev.congr (fun k => if_pos rfl) (Ev.bind (ev_filterO (g := fun (s : Fin 1024) k => threshold_Satisfied.f k t.f0 t.f1 t.f2 (s.1 : Int)) fun s _ => sat_ev (s.1 : Int) h.sm) (Ev.now _))
theorem subI_N {s u : Int} (h : subI s u = true) : subN s u := by
 intro i hi
 have h' := congrArg (fun z => z.testBit i) (beq_iff_eq.1 h)
 simp only [Nat.testBit_and, hi, Bool.true_and] at h'
 exact h'
theorem least_some (p : Fin 1024 → Bool) (z : Fin 1024) (h : p z = true) : ∃ c ∈ leastL (setsOf p), subI c (z.1 : Int) = true := by
 unfold leastL
 exact keep_some _ [] _ ((sortSets_perm _).mem_iff.2 (List.mem_filter.2 ⟨mem_setsOf.2 ⟨z, h, rfl⟩, isSet_fin z⟩))
theorem least_in {p : Fin 1024 → Bool} {x : Int} (h : x ∈ leastL (setsOf p)) : ∃ s : Fin 1024, p s = true ∧ x = (s.1 : Int) := mem_setsOf.1 (mem_leastL.1 h).1
def Grows (p : Fin 1024 → Bool) : Prop := ∀ s u : Fin 1024, subN (s.1 : Int) (u.1 : Int) → p s = true → p u = true
theorem least_any {p : Fin 1024 → Bool} (hp : Grows p) (z : Fin 1024) : (leastL (setsOf p)).any (fun s => subI s (z.1 : Int)) = p z := by
 rw [Bool.eq_iff_iff, List.any_eq_true]
 constructor
 ·rintro ⟨x, hx, hs⟩
  obtain ⟨s, h, rfl⟩ := least_in hx
  exact hp s z (subI_N hs) h
 ·intro h
  exact least_some p z h
theorem sat_grows {t : TT} (ht : Sm t) : Grows fun s => satT t (s.1 : Int) := fun _ u h hs => sat_mono (isSet_fin u) h ht hs
theorem keep_len : ∀ (l out : List Int), (keepLeast out l).length ≤ out.length + l.length
 | [], _ => by simp [keepLeast]
 | x :: l, out => by
  unfold keepLeast
  refine Nat.le_trans (keep_len l _) ?_
  split <;> simp <;> omega
theorem allF_len : allF.length = 1024 := by decide +kernel
theorem least_len (p : Fin 1024 → Bool) : (leastL (setsOf p)).length ≤ 1024 := by
 have h1 := keep_len (sortSets ((setsOf p).filter isSet)) []
 have h2 := (sortSets_perm ((setsOf p).filter isSet)).length_eq
 have h3 := List.length_filter_le isSet (setsOf p)
 have h4 := List.length_filter_le p allF
 have h5 : (setsOf p).length = (allF.filter p).length := by unfold setsOf; rw [List.length_map]
 have h6 := allF_len
 have h7 : ([] : List Int).length = 0 := rfl
 unfold leastL; omega
end Go.Proofs.Ytfkpimjiaijmgaa.Q
end
section
namespace Go.Proofs.Ytfkpimjiaijmgaa.Q
open Go.RowKit Go.Proofs.Ytfkpimjiaijmgaa.G Go.Proofs.YtfkpimjiaijmgaaW.PrintWords Go.Proofs.YtfkpimjiaijmgaaW.PrintLast Go.Proofs.YtfkpimjiaijmgaaW.PrintMore Go.Proofs.YtfkpimjiaijmgaaV
set_option linter.unusedVariables false
theorem ints_go {a b : List Int} (hl : a.length ≤ 1073741824) (he : a.length = b.length) : ∀ (d i : Nat), i + d = a.length → Ev (fun k => trustquorummake_Ints.l0 k a b a.length i) (decide (a.drop i = b.drop i))
 | 0, i, hi => by
  have h1 : a.drop i = [] := List.drop_of_length_le (by omega)
  have h2 : b.drop i = [] := List.drop_of_length_le (by omega)
  rw [h1, h2]
  exact Ev.step (f := fun _ => some true) (fun k => by simp only [trustquorummake_Ints.l0]; rw [if_neg (by omega)]) (Ev.now _)
 | d + 1, i, hi => by
  have ia : i < a.length := by omega
  have ib : i < b.length := by omega
  have ih := ints_go hl he d (i + 1) (by omega)
  rw [List.drop_eq_getElem_cons ia, List.drop_eq_getElem_cons ib]
  refine Ev.step (f := fun k => if a[i] = b[i] then trustquorummake_Ints.l0 k a b a.length ((i + 1 : Nat) : Int) else some false) (fun k => ?_) ?_
  ·simp only [trustquorummake_Ints.l0]
   rw [if_pos (by omega), if_pos (by omega), if_pos (by omega), if_pos (by omega), rd_get ia, rd_get ib, up (by omega)]
  ·by_cases c : a[i] = b[i]
   ·simp only [c, if_true, List.cons.injEq, true_and]; exact ih
   ·simp only [c, if_false, List.cons.injEq, false_and, decide_false]; exact Ev.now _
theorem ints_ev {a b : List Int} (hl : a.length ≤ 1073741824) : Ev (fun k => trustquorummake_Ints.f k a b) (decide (a = b)) := by
 by_cases he : a.length = b.length
 ·have h := ints_go hl he a.length 0 (by omega)
  rw [List.drop_zero, List.drop_zero] at h
  exact Ev.congr (fun k => by unfold trustquorummake_Ints.f; rw [if_pos (by omega)]; rfl) h
 ·have : a ≠ b := fun e => he (by rw [e])
  rw [decide_eq_false this]
  exact Ev.congr (fun k => by unfold trustquorummake_Ints.f; rw [if_neg (by omega)]) (Ev.now _)
end Go.Proofs.Ytfkpimjiaijmgaa.Q
end
section
namespace Go.Proofs.Ytfkpimjiaijmgaa.Q
open Go.RowKit Go.Proofs.Ytfkpimjiaijmgaa.G Go.Proofs.YtfkpimjiaijmgaaW.PrintWords Go.Proofs.YtfkpimjiaijmgaaW.PrintLast Go.Proofs.YtfkpimjiaijmgaaW.PrintMore Go.Proofs.YtfkpimjiaijmgaaV
set_option linter.unusedVariables false
theorem valid2_ev {d : Nat} (hd : d ≤ 8) {x y : TT} (hx : SmD d x) (hy : SmD d y) (vx : validT x = 0) (vy : validT y = 0) : Ev (fun k => slices_valid.f k x.f0 x.f1 x.f2 y.f0 y.f1 y.f2) 0 := by
 refine Ev.congr (fun k => by unfold slices_valid.f; rfl) (Ev.bind (valid_ev hd hx) ?_)
 rw [vx]
 refine Ev.congr (fun k => if_pos rfl) (Ev.bind (valid_ev hd hy) ?_)
 rw [vy]
 exact Ev.now _
def difE (x y : TT) : List (Fin 1024) := allF.filter fun s => satT x (s.1 : Int) != satT y (s.1 : Int)
def difI (x y : TT) : List (Fin 1024) := allF.filter fun s => satT x (s.1 : Int) && !satT y (s.1 : Int)
theorem equivalent_ev {d : Nat} (hd : d ≤ 8) {x y : TT} (hx : SmD d x) (hy : SmD d y) (vx : validT x = 0) (vy : validT y = 0) : Ev (fun k => slices_Equivalent.f k x.f0 x.f1 x.f2 y.f0 y.f1 y.f2) (!(headF (difE x y)).2, (headF (difE x y)).1, 0) := by
 refine Ev.congr (fun k => by unfold slices_Equivalent.f; rfl) (Ev.bind (valid2_ev hd hx hy vx vy) ?_)
 exact Ev.congr (fun k => if_pos rfl) (Ev.bind (ev_filterO (g := fun (s : Fin 1024) k => (threshold_Satisfied.f k x.f0 x.f1 x.f2 (s.1 : Int)).bind fun b => (threshold_Satisfied.f k y.f0 y.f1 y.f2 (s.1 : Int)).bind fun b' => some (b != b')) fun s _ => Ev.bind (sat_ev (s.1 : Int) hx.sm) (Ev.bind (sat_ev (s.1 : Int) hy.sm) (Ev.now _))) (Ev.now _))
theorem implies_ev {d : Nat} (hd : d ≤ 8) {x y : TT} (hx : SmD d x) (hy : SmD d y) (vx : validT x = 0) (vy : validT y = 0) : Ev (fun k => slices_Implies.f k x.f0 x.f1 x.f2 y.f0 y.f1 y.f2) (!(headF (difI x y)).2, (headF (difI x y)).1, 0) := by
 refine Ev.congr (fun k => by unfold slices_Implies.f; rfl) (Ev.bind (valid2_ev hd hx hy vx vy) ?_)
 exact Ev.congr (fun k => if_pos rfl) (Ev.bind (ev_filterO (g := fun (s : Fin 1024) k => (threshold_Satisfied.f k x.f0 x.f1 x.f2 (s.1 : Int)).bind fun b => (threshold_Satisfied.f k y.f0 y.f1 y.f2 (s.1 : Int)).bind fun b' => some (b && !b')) fun s _ => Ev.bind (sat_ev (s.1 : Int) hx.sm) (Ev.bind (sat_ev (s.1 : Int) hy.sm) (Ev.now _))) (Ev.now _))
/-- Either none, or the first one. -/
theorem head_cases (p : Fin 1024 → Bool) : (headF (allF.filter p) = (0, false) ∧ ∀ s, p s = false) ∨ ∃ s : Fin 1024, headF (allF.filter p) = ((s.1 : Int), true) ∧ p s = true := by
 cases h : allF.filter p with
 | nil => exact .inl ⟨rfl, fun s => by
  have := List.filter_eq_nil_iff.1 h s (mem_allF s)
  simpa using this⟩
 | cons s r => exact .inr ⟨s, rfl, (List.mem_filter.1 (h ▸ List.mem_cons_self .. : s ∈ allF.filter p)).2⟩
theorem dif_none {p : Fin 1024 → Bool} (h : ∀ s, p s = false) : headF (allF.filter p) = (0, false) := by
 rcases head_cases p with ⟨e, _⟩ | ⟨s, _, hs⟩
 ·exact e
 ·rw [h s] at hs; cases hs
theorem mins_eq {x y : TT} (hx : Sm x) (hy : Sm y) : minsT x = minsT y ↔ ∀ s : Fin 1024, satT x (s.1 : Int) = satT y (s.1 : Int) := by
 constructor
 ·intro h s
  have h1 := least_any (sat_grows hx) s
  have h2 := least_any (sat_grows hy) s
  have h3 : (leastL (setsOf fun s => satT x (s.1 : Int))) = (leastL (setsOf fun s => satT y (s.1 : Int))) := h
  rw [h3] at h1
  exact h1.symm.trans h2
 ·intro h
  unfold minsT
  rw [show (fun s : Fin 1024 => satT x (s.1 : Int)) = fun s => satT y (s.1 : Int) from funext h]
theorem imp_both {b c : Bool} (h1 : (b && !c) = false) (h2 : (c && !b) = false) : b = c := by
 revert h1 h2; cases b <;> cases c <;> decide
theorem se_j1 {x y : TT} (hx : Sm x) (hy : Sm y) (k0 : Fin 1024) (b : Bool) (h : b = (satT x (k0.1 : Int) == satT y (k0.1 : Int))) : Ev (fun k => trustquorumlaw05_SlicesEquivalent.j1 k b (k0.1 : Int) false x.f0 x.f1 x.f2 y.f0 y.f1 y.f2) true := by
 refine Ev.step (f := fun k => (trustquorumref02_Satisfied.f k x.f0 x.f1 x.f2 (k0.1 : Int)).bind fun t => (trustquorumref02_Satisfied.f k y.f0 y.f1 y.f2 (k0.1 : Int)).bind fun u => if (b == (t == u)) = true then trustquorumlaw05_awake.f.bind fun t => some t else some false) (fun k => by simp only [trustquorumlaw05_SlicesEquivalent.j1]; rfl) (Ev.bind (refsat_ev _ hx) (Ev.bind (refsat_ev _ hy) ?_))
 rw [h]
 exact Ev.congr (fun k => if_pos (by simp)) (Ev.now _)
theorem se_j0 {x y : TT} (hx : Sm x) (hy : Sm y) {k0 : Fin 1024} {b : Bool} (h : b = (satT x (k0.1 : Int) == satT y (k0.1 : Int))) {b1 b2 : Bool} {k1 k2 : Fin 1024} (h1 : b1 = true ∨ (satT x (k1.1 : Int) = true ∧ satT y (k1.1 : Int) = false)) (h2 : b2 = true ∨ (satT y (k2.1 : Int) = true ∧ satT x (k2.1 : Int) = false)) :
 Ev (fun k => trustquorumlaw05_SlicesEquivalent.j0 k b (k0.1 : Int) b1 (k1.1 : Int) b2 (k2.1 : Int) false x.f0 x.f1 x.f2 y.f0 y.f1 y.f2) true := by
 have e := se_j1 hx hy k0 b h
 have s1 := refsat_ev (k1.1 : Int) hx
 have s2 := refsat_ev (k1.1 : Int) hy
 have s3 := refsat_ev (k2.1 : Int) hx
 have s4 := refsat_ev (k2.1 : Int) hy
 have rest : Ev (fun k => if b2 = true then trustquorumlaw05_SlicesEquivalent.j1 k b (k0.1 : Int) false x.f0 x.f1 x.f2 y.f0 y.f1 y.f2 else (trustquorumref02_Satisfied.f k y.f0 y.f1 y.f2 (k2.1 : Int)).bind fun t => if t = true then (trustquorumref02_Satisfied.f k x.f0 x.f1 x.f2 (k2.1 : Int)).bind fun u => trustquorumlaw05_SlicesEquivalent.j1 k b (k0.1 : Int) u x.f0 x.f1 x.f2 y.f0 y.f1 y.f2 else trustquorumlaw05_SlicesEquivalent.j1 k b (k0.1 : Int) true x.f0 x.f1 x.f2 y.f0 y.f1 y.f2) true := by
  cases hb : b2 with
  | true => exact e
  | false =>
   rcases h2 with h2 | ⟨h2, h3⟩
   ·rw [hb] at h2; cases h2
   ·rw [h2] at s4; rw [h3] at s3
    exact Ev.congr (fun k => if_neg (show ¬ (false = true) by decide)) (Ev.bind s4 (Ev.congr (fun k => if_pos rfl) (Ev.bind (f := fun k u => trustquorumlaw05_SlicesEquivalent.j1 k b (k0.1 : Int) u x.f0 x.f1 x.f2 y.f0 y.f1 y.f2) s3 e)))
 cases hb : b1 with
 | true => exact Ev.step (fun k => by simp only [trustquorumlaw05_SlicesEquivalent.j0]; rfl) rest
 | false =>
  rcases h1 with h1 | ⟨h1, h3⟩
  ·rw [hb] at h1; cases h1
  ·rw [h1] at s1; rw [h3] at s2
   exact Ev.step (fun k => by simp only [trustquorumlaw05_SlicesEquivalent.j0]; rfl) (Ev.bind s1 (Ev.congr (fun k => if_pos rfl) (Ev.bind s2 (Ev.congr (fun k => if_neg (show ¬ (false = true) by decide)) rest))))
set_option maxRecDepth 10000 in
theorem slicesEquivalent_true : trustquorumlaw05_SlicesEquivalent.Pure := by
 intro l0 _ _ _
 obtain ⟨tl, e0, hp0⟩ := tape_new l0
 obtain ⟨a, ls, ts, p1, h1, hsn, vx, hp1⟩ := mk_Trust (n := 3) (by omega) (by omega) 1 (by omega) hp0
 obtain ⟨a', ls', ts', p2, h2, hsn', vy, hp2⟩ := mk_Trust (n := 3) (by omega) (by omega) 1 (by omega) hp1
 generalize hx : (⟨a, ls, ts⟩ : TT) = x at *
 generalize hy : (⟨a', ls', ts'⟩ : TT) = y at *
 have hX := valid_smd vx
 have hY := valid_smd vy
 have vn := norm_valid vx
 have hN := valid_smd vn
 have h3 := Normal_ev (by omega) hX
 rw [if_pos vx] at h3
 have h4 := equivalent_ev (by omega) hX hN vx vn
 have h5 := equivalent_ev (by omega) hX hY vx vy
 have h6 := implies_ev (by omega) hX hY vx vy
 have h7 := implies_ev (by omega) hY hX vy vx
 have h8 := slices_ev (by omega) hX vx
 have h9 := slices_ev (by omega) hY vy
 have h10 := ints_ev (a := minsT x) (b := minsT y) (by have := least_len fun s => satT x (s.1 : Int); unfold minsT; omega)
 have hone : headF (difE x (normT x)) = (0, false) := dif_none fun s => by
  rw [(norm_both x (valid_chk vx).1).2 _ (isSet_fin s)]; simp
 have hm := mins_eq hX.sm hY.sm
 have hz : ((⟨0, by omega⟩ : Fin 1024).1 : Int) = 0 := rfl
 rw [hone] at h4
 have key : ∃ (k0 k1 k2 : Fin 1024), headF (difE x y) = ((k0.1 : Int), !decide (minsT x = minsT y)) ∧ decide (minsT x = minsT y) = (satT x (k0.1 : Int) == satT y (k0.1 : Int)) ∧ headF (difI x y) = ((k1.1 : Int), (headF (difI x y)).2) ∧ headF (difI y x) = ((k2.1 : Int), (headF (difI y x)).2) ∧
  (!(headF (difI x y)).2 && !(headF (difI y x)).2) = decide (minsT x = minsT y) ∧ ((!(headF (difI x y)).2) = true ∨ (satT x (k1.1 : Int) = true ∧ satT y (k1.1 : Int) = false)) ∧ ((!(headF (difI y x)).2) = true ∨ (satT y (k2.1 : Int) = true ∧ satT x (k2.1 : Int) = false)) := by
  by_cases c : minsT x = minsT y
  ·have cs := hm.1 c
   have e1 : headF (difE x y) = (0, false) := dif_none fun s => by rw [cs s]; simp
   have e2 : headF (difI x y) = (0, false) := dif_none fun s => by rw [cs s]; simp
   have e3 : headF (difI y x) = (0, false) := dif_none fun s => by rw [cs s]; simp
   refine ⟨⟨0, by omega⟩, ⟨0, by omega⟩, ⟨0, by omega⟩, ?_⟩
   rw [e1, e2, e3, decide_eq_true c, cs ⟨0, by omega⟩]
   simp
  ·have e1 : ∃ k0 : Fin 1024, headF (difE x y) = ((k0.1 : Int), true) ∧ (satT x (k0.1 : Int) == satT y (k0.1 : Int)) = false := by
    rcases head_cases (fun s => satT x (s.1 : Int) != satT y (s.1 : Int)) with ⟨_, h⟩ | ⟨s, h, hs⟩
    ·exact absurd (hm.2 fun s => by simpa using h s) c
    ·exact ⟨s, h, by simpa using hs⟩
   obtain ⟨k0, e1, hk0⟩ := e1
   have c2 : ∀ u v : TT, ∃ k1 : Fin 1024, headF (difI u v) = ((k1.1 : Int), (headF (difI u v)).2) ∧ (((headF (difI u v)).2 = false ∧ ∀ s : Fin 1024, (satT u (s.1 : Int) && !satT v (s.1 : Int)) = false) ∨ ((headF (difI u v)).2 = true ∧ satT u (k1.1 : Int) = true ∧ satT v (k1.1 : Int) = false)) := by
    intro u v
    rcases head_cases (fun s => satT u (s.1 : Int) && !satT v (s.1 : Int)) with ⟨e, h⟩ | ⟨s, e, hs⟩
    ·have e' : headF (difI u v) = (0, false) := e
     exact ⟨⟨0, by omega⟩, by rw [e']; rfl, .inl ⟨by rw [e'], h⟩⟩
    ·have e' : headF (difI u v) = ((s.1 : Int), true) := e
     exact ⟨s, by rw [e'], .inr ⟨by rw [e'], by simpa using hs⟩⟩
   obtain ⟨k1, e2, c1⟩ := c2 x y
   obtain ⟨k2, e3, c3⟩ := c2 y x
   refine ⟨k0, k1, k2, by rw [e1, decide_eq_false c]; rfl, by rw [hk0, decide_eq_false c], e2, e3, ?_, ?_, ?_⟩
   ·rw [decide_eq_false c]
    rcases c1 with ⟨a1, b1⟩ | ⟨a1, _⟩
    ·rcases c3 with ⟨a3, b3⟩ | ⟨a3, _⟩
     ·refine absurd (hm.2 fun s => ?_) c
      exact imp_both (b1 s) (b3 s)
     ·rw [a3]; simp
    ·rw [a1]; rfl
   ·rcases c1 with ⟨a1, _⟩ | ⟨_, b1⟩
    ·exact .inl (by rw [a1]; rfl)
    ·exact .inr b1
   ·rcases c3 with ⟨a1, _⟩ | ⟨_, b1⟩
    ·exact .inl (by rw [a1]; rfl)
    ·exact .inr b1
 obtain ⟨k0, k1, k2, f1, f2, f3, f4, f5, f6, f7⟩ := key
 have h11 := se_j0 hX.sm hY.sm f2 f6 f7
 rw [f1] at h5; rw [f3] at h6; rw [f4] at h7
 generalize (headF (difI x y)).2 = u1 at *
 generalize (headF (difI y x)).2 = u2 at *
 generalize decide (minsT x = minsT y) = m at *
 simp only [Bool.not_not, Bool.not_false] at h4 h5 h6 h7
 obtain ⟨q1, g1⟩ := h1
 obtain ⟨q2, g2⟩ := h2
 obtain ⟨q3, g3⟩ := h3
 obtain ⟨q4, g4⟩ := h4
 obtain ⟨q5, g5⟩ := h5
 obtain ⟨q6, g6⟩ := h6
 obtain ⟨q7, g7⟩ := h7
 obtain ⟨q8, g8⟩ := h8
 obtain ⟨q9, g9⟩ := h9
 obtain ⟨q10, g10⟩ := h10
 obtain ⟨q11, g11⟩ := h11
 refine ⟨q1 + q2 + q3 + q4 + q5 + q6 + q7 + q8 + q9 + q10 + q11, ?_⟩
 have z1 := g1 (q1 + q2 + q3 + q4 + q5 + q6 + q7 + q8 + q9 + q10 + q11) (by omega)
 have z2 := g2 (q1 + q2 + q3 + q4 + q5 + q6 + q7 + q8 + q9 + q10 + q11) (by omega)
 have z3 := g3 (q1 + q2 + q3 + q4 + q5 + q6 + q7 + q8 + q9 + q10 + q11) (by omega)
 have z4 := g4 (q1 + q2 + q3 + q4 + q5 + q6 + q7 + q8 + q9 + q10 + q11) (by omega)
 have z5 := g5 (q1 + q2 + q3 + q4 + q5 + q6 + q7 + q8 + q9 + q10 + q11) (by omega)
 have z6 := g6 (q1 + q2 + q3 + q4 + q5 + q6 + q7 + q8 + q9 + q10 + q11) (by omega)
 have z7 := g7 (q1 + q2 + q3 + q4 + q5 + q6 + q7 + q8 + q9 + q10 + q11) (by omega)
 have z8 := g8 (q1 + q2 + q3 + q4 + q5 + q6 + q7 + q8 + q9 + q10 + q11) (by omega)
 have z9 := g9 (q1 + q2 + q3 + q4 + q5 + q6 + q7 + q8 + q9 + q10 + q11) (by omega)
 have z10 := g10 (q1 + q2 + q3 + q4 + q5 + q6 + q7 + q8 + q9 + q10 + q11) (by omega)
 have z11 := g11 (q1 + q2 + q3 + q4 + q5 + q6 + q7 + q8 + q9 + q10 + q11) (by omega)
 generalize q1 + q2 + q3 + q4 + q5 + q6 + q7 + q8 + q9 + q10 + q11 = k at *
 clear g1 g2 g3 g4 g5 g6 g7 g8 g9 g10 g11
 simp only at z1 z2 z3 z4 z5 z6 z7 z8 z9 z10 z11
 rw [show ((1 + 1 : Nat) : Int) = 2 from rfl, show ((3 : Nat) : Int) = 3 from rfl] at z1 z2
 have ex : x.f0 = a ∧ x.f1 = ls ∧ x.f2 = ts := by rw [← hx]; exact ⟨rfl, rfl, rfl⟩
 have ey : y.f0 = a' ∧ y.f1 = ls' ∧ y.f2 = ts' := by rw [← hy]; exact ⟨rfl, rfl, rfl⟩
 rw [ex.1, ex.2.1, ex.2.2] at z3 z4 z5 z6 z7 z8 z11
 rw [ey.1, ey.2.1, ey.2.2] at z5 z6 z7 z9 z11
 unfold trustquorumlaw05_SlicesEquivalent.f
 rw [e0]; simp only [Option.bind_some]
 rw [z1]; simp only [Option.bind_some]
 rw [z2]; simp only [Option.bind_some]
 rw [z3]; simp only [Option.bind_some]
 rw [z4]; simp only [Option.bind_some]
 rw [z5]; simp only [Option.bind_some]
 rw [z6]; simp only [Option.bind_some]
 rw [z7]; simp only [Option.bind_some]
 rw [z8]; simp only [Option.bind_some]
 rw [z9]; simp only [Option.bind_some, if_true]
 rw [z10]
 cases u1 <;> cases u2 <;> cases m <;> first | (exfalso; revert f5; decide) | (simp only [Option.bind_some, Bool.not_true, Bool.not_false, bne_self_eq_false, Bool.false_eq_true, if_false, if_true] at z11 ⊢; exact z11) | (exact z11)
end Go.Proofs.Ytfkpimjiaijmgaa.Q
end
section
namespace Go.Proofs.Ytfkpimjiaijmgaa.Pure
open Go.RowKit Go.Proofs.Ytfkpimjiaijmgaa.G Go.Proofs.YtfkpimjiaijmgaaW.PrintWords Go.Proofs.YtfkpimjiaijmgaaW.PrintLast
/-- YOURS: ∀ (l0 : List Int), l0.length ≤ maxLen → l0.length * 8 ≤ 140737488351232 → (∀ x ∈ l0, (Lit.int .i64 x).wf = true) → ∃ k, trustquorumlaw05_SlicesEquivalent.f k l0 = some true
What it reaches (each with k first where it has rounds; `.mono`: more rounds tell the same; `.l0`, ..: its loops, with `.mono_l`): trustquorummake_New.f, trustquorummake_Tape_N.f, trustquorummake_Tape_Range.f, trustquorummake_Tape_Order.f, trustquorummake_Tape_Pick.f, trustquorummake_trust.f, trustquorumref02_Depth.f, trustquorumref02_Size.f, trustquorumref01_Valid.f, trustquorumref01_Has.f, trustquorumref01_Of.f, trustquorumref02_check.f, trustquorumref02_Valid.f, trustquorummake_Trust.f, threshold_Depth.f, threshold_Size.f, nodeset_below.f, nodeset_Valid.f, nodeset_Has.f, nodeset_Of.f, threshold_node.f, threshold_level_1.f, threshold_level.f, threshold_Valid.f, cmp_Or_int.f, cmp_isNaN_int.f, cmp_Compare_int.f, bits_OnesCount64.f, bits_OnesCount.f, nodeset_Size.f, nodeset_rank.f, nodeset_Compare.f, nodeset_Least.f, nodeset_Next.f, slices_inOrder.f, slices_least.f, threshold_Satisfied.f, slices_Slices.f, trustquorumref02_Satisfied.f, threshold_Blocked.f, slices_Blocking.f, trustquorummake_Ints.f, trustquorumlaw05_awake.f, trustquorumref04_has.f, trustquorumref04_count.f, trustquorumref04_sign.f, trustquorumref04_Compare.f, trustquorumref04_with.f, trustquorumref04_merged.f, trustquorumref04_sorted.f, trustquorumref04_normal.f, trustquorumref04_Normal.f, slices_valid.f, slices_first.f, slices_Implies.f, slices_Equivalent.f, trustquorumlaw05_SlicesEquivalent.f -/
theorem SlicesEquivalent : trustquorumlaw05_SlicesEquivalent.Pure := Q.slicesEquivalent_true
end Go.Proofs.Ytfkpimjiaijmgaa.Pure
end
section
namespace Go.Proofs.Ytfkpimjiaijmgaa.slicesEquivalent
open Go.ChangeShapes Go.WideShapes Go.ChangeAt Go.RowKit
open Go.ChangeMaps (open_string shut_string)
set_option linter.unusedVariables false
theorem own : ownKnob Try.prog.godebug = none := by kernel_rfl
theorem laidOut : laidOutB Try.prog = true := by kernel_rfl
def IsRow (k : IntKind) (w : World) (a : Option Addr) (len cap : Nat) (zs : List Int) : Prop :=
 (a = none ∧ len = 0 ∧ cap = 0 ∧ zs = []) ∨
 ∃ x, a = some x ∧ len ≤ cap ∧ cap ≤ maxLen ∧ zs.length = cap ∧ (∀ i, i < zs.length → w.cell? (x.add i) = some (.int k (zs.getD i 0))) ∧ ∀ n ∈ zs, (Lit.int k n).wf = true
set_option maxRecDepth 100000 in
theorem lifted (os : Os) (started : os.Started) (H : Type) (enc : TypeId × Value → H) :
 ReturnsInHanded {} Try.checked os 5 .any (Rows.slicesEquivalentSpec.pre6 enc Try.prog Try.f5 Rows.slicesEquivalentRow.domain false) (Rows.slicesEquivalentSpec.post enc Try.prog Try.f5 false true false false) := by
 refine returnsInHanded_of_change_sized (C := Try.checked) own started (by kernel_rfl) Try.func5
  (ChangeSpec.witness6 (enc := enc) (C := Try.checked) false ⟨#[], #[.slice none 0 0], []⟩ 8 (by kernel_rfl) (by kernel_rfl) (by kernel_rfl) (by kernel_rfl)) ?_
 intro W base args ds gs before hval0 hW hcnd hsz0 _
 have hsz : (DataW.weightsEach Try.prog (Try.f5.params.toList ++ Rows.slicesEquivalentSpec.plain.varTypes Try.prog) (ds ++ gs)).all (· ≤ reachBytes) = true := hsz0
 have hval : ∀ (j : Nat) t v, Try.f5.params[j]? = some t → args[j]? = some v → Value.okWide Try.prog W .any base t v := hval0
 have hW' := hW
 obtain ⟨p, q, hA0, hV, rfl, hfz, hnd⟩ := hW
 have hA : DataW.TrodAll enc Try.prog W 0 (fun _ => true) true Try.f5.params.toList args.toList ds p := hA0
 rw [Try.params5] at hA hval hsz
 obtain ⟨v0, vs0, d0, ds0, p0, q0, hargs, rfl, rfl, h0, r0⟩ := trodAll_cons hA
 obtain ⟨rfl, rfl, rfl⟩ := trodAll_nil r0
 obtain rfl : args = #[v0] := by cases args; simp_all
 obtain ⟨rfl, rfl⟩ := trodVars_none hV
 obtain ⟨a0, len0, cap0, rfl⟩ := okWide_slice Try.underlying22 (hval 0 22 v0 rfl rfl)
 have k0 := h0
 have lt0 : ∀ x ∈ p0, x.block < W.heap.size := by obtain ⟨m, hm⟩ := k0; exact DataW.trod_lt m _ _ _ hm
 obtain ⟨z0, w0⟩ : ∃ zs, IsRow .i64 W a0 len0 cap0 zs := by
  obtain ⟨fuel, hf⟩ := h0
  rcases open_ints Try.underlying22 Try.underlying3 (by kernel_rfl) hf with ⟨hcs, _⟩ | ⟨x, l, c, zs, hcs, _, hl, hm, hz, _, hcell, hwz⟩
  ·simp [Value.cells] at hcs
   obtain ⟨rfl, rfl, rfl⟩ := hcs
   exact ⟨[], .inl ⟨rfl, rfl, rfl, rfl⟩⟩
  ·simp [Value.cells] at hcs
   obtain ⟨rfl, rfl, rfl⟩ := hcs
   exact ⟨zs, .inr ⟨_, rfl, hl, hm, by simpa using hz, hcell, hwz⟩⟩
 have y0 : len0 * 8 ≤ 140737488351232 := Go.Proofs.YtfkpimjiaijmgaaW.PrintWords.sized_ints hsz (j := 0) (t := 22) rfl rfl Try.underlying22 Try.underlying3 (by kernel_rfl) (by kernel_rfl) h0
 clear hA0 hval0 hsz0 hsz
 refine (G.trustquorumlaw05_SlicesEquivalent.walk Pure.SlicesEquivalent a0 len0 cap0 z0 W w0 y0).mono fun e W' ⟨he, bel⟩ => ?_
 subst he
 exact ⟨_, rfl, _, _, _, [], _, [], hW', trodAll_mk1 (shut_bool Try.underlying4 _), (trodAll_cons_mk (Below.trod laidOut (by kernel_rfl) (of_decide_eq_true (by kernel_rfl)) k0 bel lt0) trodAll_mk0), rfl, bel.frame _, fun h => by cases h⟩
theorem over : Rows.slicesEquivalentRow.holds Try.pinned (OpenSpec.ofChange Rows.slicesEquivalentSpec) :=
 OpenClaim.holds_of_wide 5 Try.f5 rfl rfl rfl rfl rfl rfl rfl ⟨rfl, rfl, rfl, rfl, rfl⟩ rfl rfl rfl rfl rfl (by kernel_rfl) Try.func5 (by kernel_rfl)
  (of_decide_eq_true (by kernel_rfl)) (by unfold Func.isWrapper; first | (rw [if_pos (by decide +kernel)]; kernel_rfl) | (rw [if_neg (by decide +kernel)]; exact ⟨rfl, rfl⟩))
  (fun os started H enc _ => lifted os started H enc)
theorem proved : Rows.SlicesEquivalentSaid := over
end Go.Proofs.Ytfkpimjiaijmgaa.slicesEquivalent
namespace Go.Proofs.Ytfkpimjiaijmgaa
/-- The row, under a short name, for the claim. -/
theorem slicesEquivalent_holds : Rows.SlicesEquivalentSaid := slicesEquivalent.proved
end Go.Proofs.Ytfkpimjiaijmgaa
end
#print axioms Go.Proofs.Ytfkpimjiaijmgaa.slicesEquivalent_holds
