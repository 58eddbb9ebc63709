/- SlicesDual: the texts of the claim, put together (part 6 of 6). The law is proved in the last one: it takes no condition beyond the statement's own. -/
import Derived.Test.YtfkpimjiaijmgaaRows
import Derived.WalkKit
import Derived.ProofKit
import Derived.OpenShut
import Derived.ShutString
import Derived.ChangeOld
import Derived.Below
import Derived.SizedLaws
import Derived.Test.YtfkpimjiaijmgaaCSlicesDual4
section
namespace Go.Proofs.Ytfkpimjiaijmgaa.Q
open Go.RowKit Go.Proofs.Ytfkpimjiaijmgaa.G Go.Proofs.YtfkpimjiaijmgaaW.PrintWords Go.Proofs.YtfkpimjiaijmgaaW.PrintLast Go.Proofs.YtfkpimjiaijmgaaW.PrintMore Go.Proofs.YtfkpimjiaijmgaaV
set_option linter.unusedVariables false
theorem mod_bit {z n : Nat} (i : Nat) : (z % 2 ^ n).testBit i = (decide (i < n) && z.testBit i) := Nat.testBit_mod_two_pow z n i
/-- What a trust of nodes below n tells depends on these alone. -/
theorem has_mod {n s : Nat} (hn : n ≤ 10) (hs : s < 1024) {x : Int} (hx : 0 ≤ x ∧ x < (n : Int)) : hasI ((s % 2 ^ n : Nat) : Int) x = hasI (s : Int) x := by
  have h2 : s % 2 ^ n < 1024 := Nat.lt_of_le_of_lt (Nat.mod_le _ _) hs
  obtain ⟨m, rfl⟩ := Int.eq_ofNat_of_zero_le hx.1
  have hm : m < n := by omega
  rw [has_nat h2 (by omega), has_nat hs (by omega), mod_bit]; simp [hm]
theorem sat_mod {n s : Nat} (hn : n ≤ 10) (hs : s < 1024) : ∀ {d : Nat} {t : TT}, SmN n d t → satT t ((s % 2 ^ n : Nat) : Int) = satT t (s : Int)
  | 0, _, h => h.elim
  | d + 1, ⟨a, l, ts⟩, h => by
    have h2 : s % 2 ^ n < 1024 := Nat.lt_of_le_of_lt (Nat.mod_le _ _) hs
    have e1 : l.filter (hasI ((s % 2 ^ n : Nat) : Int)) = l.filter (hasI (s : Int)) := List.filter_congr fun x hx => has_mod hn hs (h.2.2.1 x hx)
    have e2 : ts.filter (fun x => satT x ((s % 2 ^ n : Nat) : Int)) = ts.filter (fun x => satT x (s : Int)) := List.filter_congr fun x hx => sat_mod hn hs (h.2.2.2 x hx)
    rw [satT_eq, satT_eq, set_of_lt h2, set_of_lt hs, e1, e2]
/-- A predicate of the nodes below n alone. -/
def Low (n : Nat) (p : Fin 1024 → Bool) : Prop := ∀ s u : Fin 1024, s.1 % 2 ^ n = u.1 % 2 ^ n → p s = p u
theorem sat_low {n d : Nat} (hn : n ≤ 10) {t : TT} (h : SmN n d t) : Low n fun s => satT t (s.1 : Int) := fun s u e => by
  show satT t (s.1 : Int) = satT t (u.1 : Int)
  rw [← sat_mod hn s.2 h, ← sat_mod hn u.2 h, e]
def blkP (t : TT) (s : Fin 1024) : Bool := isSet (s.1 : Int) && !satT t (1023 - (s.1 : Int))
def flip (s : Fin 1024) : Fin 1024 := ⟨1023 - s.1, by omega⟩
theorem flip_val (s : Fin 1024) : ((flip s).1 : Int) = 1023 - (s.1 : Int) := by show ((1023 - s.1 : Nat) : Int) = _; have := s.2; omega
theorem flip_flip (s : Fin 1024) : flip (flip s) = s := Fin.ext (by show 1023 - (1023 - s.1) = s.1; have := s.2; omega)
theorem blkP_eq (t : TT) (s : Fin 1024) : blkP t s = !satT t ((flip s).1 : Int) := by
  unfold blkP
  rw [isSet_fin s, flip_val]; rfl
theorem flip_sub {s u : Fin 1024} (h : subN (s.1 : Int) (u.1 : Int)) : subN ((flip u).1 : Int) ((flip s).1 : Int) := by
  intro i hi
  have e1 : (flip u).1.testBit i = (decide (i < 10) && !u.1.testBit i) := flip_bit u.2 i
  have e2 : (flip s).1.testBit i = (decide (i < 10) && !s.1.testBit i) := flip_bit s.2 i
  rw [Int.toNat_natCast, e1] at hi
  rw [Int.toNat_natCast, e2]
  have h' := h i
  simp only [Int.toNat_natCast] at h'
  revert hi h'
  cases u.1.testBit i <;> cases s.1.testBit i <;> simp
theorem blk_grows {t : TT} (ht : Sm t) : Grows (blkP t) := fun s u h hs => by
  rw [blkP_eq] at hs ⊢
  cases hu : satT t ((flip u).1 : Int) with
  | false => rfl
  | true => rw [sat_mono (isSet_fin _) (flip_sub h) ht hu] at hs; exact hs
theorem flip_mod {n : Nat} (hn : n ≤ 10) {s u : Fin 1024} (h : s.1 % 2 ^ n = u.1 % 2 ^ n) : (flip s).1 % 2 ^ n = (flip u).1 % 2 ^ n := by
  refine Nat.eq_of_testBit_eq fun i => ?_
  have e1 : (flip u).1.testBit i = (decide (i < 10) && !u.1.testBit i) := flip_bit u.2 i
  have e2 : (flip s).1.testBit i = (decide (i < 10) && !s.1.testBit i) := flip_bit s.2 i
  have := congrArg (fun z => z.testBit i) h
  simp only [mod_bit] at this
  rw [mod_bit, mod_bit, e1, e2]
  by_cases hi : i < n
  · simp only [hi, decide_true, Bool.true_and] at this ⊢
    rw [this]
  · simp [hi]
theorem blk_low {n d : Nat} (hn : n ≤ 10) {t : TT} (h : SmN n d t) : Low n (blkP t) := fun s u e => by
  rw [blkP_eq, blkP_eq]
  exact congrArg (fun b => !b) (sat_low hn h (flip s) (flip u) (flip_mod hn e))
/-- The least sets lie below. -/
theorem least_low {n : Nat} {p : Fin 1024 → Bool} (hp : Low n p) {x : Int} (h : x ∈ leastL (setsOf p)) : ∃ s : Fin 1024, x = (s.1 : Int) ∧ p s = true ∧ s.1 < 2 ^ n := by
  obtain ⟨s, hs, rfl⟩ := least_in h
  have hu : s.1 % 2 ^ n < 1024 := Nat.lt_of_le_of_lt (Nat.mod_le _ _) s.2
  have hpu : p ⟨s.1 % 2 ^ n, hu⟩ = true := (hp ⟨s.1 % 2 ^ n, hu⟩ s (Nat.mod_mod _ _)).trans hs
  have hsub : subI ((s.1 % 2 ^ n : Nat) : Int) (s.1 : Int) = true := subI_of fun i hi => by
    rw [Int.toNat_natCast, mod_bit, Bool.and_eq_true] at hi; exact hi.2
  have := (mem_leastL.1 h).2.2 _ (mem_sets.2 ⟨⟨s.1 % 2 ^ n, hu⟩, hpu, rfl⟩) (isSet_fin ⟨s.1 % 2 ^ n, hu⟩) hsub
  have e : s.1 % 2 ^ n = s.1 := by
    have : ((s.1 % 2 ^ n : Nat) : Int) = (s.1 : Int) := this
    omega
  exact ⟨s, rfl, hs, by have := Nat.mod_lt s.1 (Nat.two_pow_pos n); omega⟩
theorem subI_le {t s : Fin 1024} (h : subI (t.1 : Int) (s.1 : Int) = true) : t.1 ≤ s.1 := by
  have : (t.1 &&& s.1) = t.1 := by simpa [subI] using h
  rw [← this]; exact Nat.and_le_right
/-- The sets below 2^n that have a property of the nodes below n: their least ones are the least ones. -/
def lowList (n : Nat) (p : Nat → Bool) : List Int := ((List.range (2 ^ n)).filter p).map Int.ofNat
theorem least_lowList {n : Nat} (hn : n ≤ 10) {p : Fin 1024 → Bool} (hp : Low n p) (r : Nat → Bool) (hr : ∀ s : Fin 1024, s.1 < 2 ^ n → r s.1 = p s) : leastL (lowList n r) = leastL (setsOf p) := by
  have hpow : 2 ^ n ≤ 1024 := Nat.pow_le_pow_right (show 0 < 2 by omega) hn
  have hm : ∀ x, x ∈ lowList n r ↔ ∃ s : Fin 1024, x = (s.1 : Int) ∧ s.1 < 2 ^ n ∧ p s = true := fun x => by
    unfold lowList
    rw [List.mem_map]
    constructor
    · rintro ⟨j, hj, rfl⟩
      obtain ⟨h1, h2⟩ := List.mem_filter.1 hj
      have h3 := List.mem_range.1 h1
      exact ⟨⟨j, by omega⟩, rfl, h3, (hr ⟨j, by omega⟩ h3).symm.trans h2⟩
    · rintro ⟨s, rfl, h1, h2⟩
      exact ⟨s.1, List.mem_filter.2 ⟨List.mem_range.2 h1, (hr s h1).trans h2⟩, rfl⟩
  refine leastL_eq ((leastL_sorted _).imp fun h => h.1) fun x => ?_
  constructor
  · intro h
    obtain ⟨h1, h2, h3⟩ := mem_leastL.1 h
    obtain ⟨s, rfl, hs, hps⟩ := (hm _).1 h1
    refine mem_leastL.2 ⟨mem_sets.2 ⟨s, hps, rfl⟩, h2, fun t ht hts hsub => ?_⟩
    obtain ⟨u, hu, rfl⟩ := mem_sets.1 ht
    exact h3 _ ((hm _).2 ⟨u, rfl, Nat.lt_of_le_of_lt (subI_le hsub) hs, hu⟩) hts hsub
  · intro h
    obtain ⟨s, rfl, hs, hlt⟩ := least_low hp h
    obtain ⟨h1, h2, h3⟩ := mem_leastL.1 h
    refine mem_leastL.2 ⟨(hm _).2 ⟨s, rfl, hlt, hs⟩, h2, fun t ht hts hsub => ?_⟩
    obtain ⟨u, rfl, _, hu⟩ := (hm _).1 ht
    exact h3 _ (mem_sets.2 ⟨u, hu, rfl⟩) hts hsub
/-- The sets that meet the least sets of a growing property are those whose rest has it not. -/
theorem meet_all {p : Fin 1024 → Bool} (hp : Grows p) (s : Fin 1024) : ((leastL (setsOf p)).all fun x => Go.bits .and .i64 x (s.1 : Int) != 0) = !p (flip s) := by
  rw [← least_any hp (flip s), List.all_eq_not_any_not]
  refine congrArg (fun b => !b) ?_
  rw [Bool.eq_iff_iff, List.any_eq_true, List.any_eq_true]
  constructor
  · rintro ⟨x, hx, h⟩
    obtain ⟨u, _, rfl⟩ := least_in hx
    refine ⟨_, hx, ?_⟩
    rw [and_flip (isSet_fin u) (isSet_fin s), ← flip_val] at h
    simpa using h
  · rintro ⟨x, hx, h⟩
    obtain ⟨u, _, rfl⟩ := least_in hx
    refine ⟨_, hx, ?_⟩
    rw [and_flip (isSet_fin u) (isSet_fin s), ← flip_val, h]; rfl
theorem shl_pow : ∀ n : Nat, n ≤ 10 → shl .i64 1 (n : Int) = ((2 ^ n : Nat) : Int) := fun n hn => (by decide +kernel : ∀ n : Fin 11, shl .i64 1 (n.1 : Int) = ((2 ^ n.1 : Nat) : Int)) ⟨n, by omega⟩
def meets (l : List Int) (s : Nat) : Bool := l.all fun x => Go.bits .and .i64 x (s : Int) != 0
theorem meet_l2 {l : List Int} (n : Int) (hl : l.length ≤ 1024) (out : List Int) (ho : out.length ≤ 1024) (s : Nat) (hs : s ≤ 1024) {R : List Int × Int}
    (h : Ev (fun k => trustquorumref01_Meeting.l1 k l n (if meets l s then out ++ [(s : Int)] else out) ((s + 1 : Nat) : Int)) R) : ∀ (d i : Nat) (b : Bool), i + d = l.length → (b && (l.drop i).all fun x => Go.bits .and .i64 x (s : Int) != 0) = meets l s →
    Ev (fun k => trustquorumref01_Meeting.l2 k l n out s b l l.length i) R
  | 0, i, b, hi, hb => by
    rw [List.drop_of_length_le (by omega), List.all_nil, Bool.and_true] at hb
    refine Ev.step (fun k => ?_) h
    simp only [trustquorumref01_Meeting.l2]
    rw [if_neg (by omega), up (by omega), ← hb]
    cases b
    · rfl
    · simp only [if_true]; rw [if_pos (by omega)]
  | d + 1, i, b, hi, hb => by
    have hlt : i < l.length := by omega
    have e : (l.drop i) = l[i] :: l.drop (i + 1) := List.drop_eq_getElem_cons hlt
    rw [e, List.all_cons, ← Bool.and_assoc] at hb
    have ih := meet_l2 n hl out ho s hs h d (i + 1) _ (by omega) hb
    refine Ev.step (fun k => ?_) ih
    simp only [trustquorumref01_Meeting.l2]
    rw [if_pos (by omega), if_pos (by omega), if_pos (by omega), rd_get hlt, up (by omega)]
    cases b <;> rfl
theorem meet_l1 {l : List Int} {n : Nat} (hn : n ≤ 10) (hl : l.length ≤ 1024) : ∀ (d s : Nat), s + d = 2 ^ n →
    Ev (fun k => trustquorumref01_Meeting.l1 k l n (((List.range s).filter (meets l)).map Int.ofNat) s) (leastL (lowList n (meets l)), 0) := by
  intro d
  have hpow : 2 ^ n ≤ 1024 := Nat.pow_le_pow_right (show 0 < 2 by omega) hn
  induction d with
  | zero =>
    intro s hs
    obtain rfl : s = 2 ^ n := by omega
    refine Ev.step (f := fun _ => some _) (fun k => ?_) (Ev.now _)
    have h1 := List.length_filter_le (meets l) (List.range (2 ^ n))
    rw [List.length_range] at h1
    simp only [trustquorumref01_Meeting.l1]
    rw [if_pos (by omega), shl_pow n hn, if_neg (by omega), trustquorumref01_Least.f, if_pos (by rw [List.length_map]; omega)]; rfl
  | succ d ih =>
    intro s hs
    have h1 := List.length_filter_le (meets l) (List.range s)
    rw [List.length_range] at h1
    have hnext := ih (s + 1) (by omega)
    have e : ((List.range (s + 1)).filter (meets l)).map Int.ofNat = if meets l s then ((List.range s).filter (meets l)).map Int.ofNat ++ [(s : Int)] else ((List.range s).filter (meets l)).map Int.ofNat := by
      rw [List.range_succ, List.filter_append, List.map_append]
      cases hm : meets l s with
      | true => simp [hm]
      | false => simp [hm]
    rw [e] at hnext
    have h2 := meet_l2 (l := l) n hl _ (by rw [List.length_map]; omega) s (by omega) hnext l.length 0 true (by omega) (by rw [List.drop_zero]; rfl)
    refine Ev.step (fun k => ?_) h2
    simp only [trustquorumref01_Meeting.l1]
    rw [if_pos (by omega), shl_pow n hn, if_pos (by omega)]; rfl
theorem meet_l0 {l : List Int} {n : Nat} (hn : n ≤ 10) (hl : l.length ≤ 1024) (hx : ∀ x ∈ l, 0 ≤ x ∧ x < ((2 ^ n : Nat) : Int)) : ∀ (d i : Nat), i + d = l.length →
    Ev (fun k => trustquorumref01_Meeting.l0 k l n l l.length i) (leastL (lowList n (meets l)), 0)
  | 0, i, hi => by
    refine Ev.step (fun k => ?_) (meet_l1 (l := l) hn hl (2 ^ n) 0 (by omega))
    simp only [trustquorumref01_Meeting.l0]
    rw [if_neg (by omega), if_neg (by omega)]; rfl
  | d + 1, i, hi => by
    have hlt : i < l.length := by omega
    have h := hx l[i] (List.getElem_mem hlt)
    refine Ev.step (fun k => ?_) (meet_l0 hn hl hx d (i + 1) (by omega))
    simp only [trustquorumref01_Meeting.l0]
    rw [if_pos (by omega), if_pos (by omega), if_pos (by omega), rd_get hlt, if_neg (by omega), if_pos (by omega), shl_pow n hn, if_neg (by omega), up (by omega)]
theorem meeting_ev {l : List Int} {n : Nat} (hn : n ≤ 10) (hl : l.length ≤ 1024) (hx : ∀ x ∈ l, 0 ≤ x ∧ x < ((2 ^ n : Nat) : Int)) : Ev (fun k => trustquorumref01_Meeting.f k l n) (leastL (lowList n (meets l)), 0) := by
  refine Ev.congr (f := fun k => trustquorumref01_Meeting.j0 k l n false) (fun k => ?_) (Ev.step (fun k => ?_) (meet_l0 hn hl hx l.length 0 (by omega)))
  · unfold trustquorumref01_Meeting.f
    rw [if_neg (by omega), decide_eq_false (by omega)]
  · simp only [trustquorumref01_Meeting.j0]; rfl
theorem ints_l {l : List Int} (hl : l.length ≤ 1073741824) : ∀ (d i : Nat), i + d = l.length → Ev (fun k => trustquorummake_Ints.l0 k l l l.length i) true
  | 0, i, hi => Ev.step (f := fun _ => some true) (fun k => by simp only [trustquorummake_Ints.l0]; rw [if_neg (by omega)]) (Ev.now _)
  | d + 1, i, hi => by
    refine Ev.step (fun k => ?_) (ints_l hl d (i + 1) (by omega))
    simp only [trustquorummake_Ints.l0]
    rw [if_pos (by omega), if_pos (by omega), if_pos (by omega), if_pos (by omega), if_pos trivial, up (by omega)]
theorem ints_same {l : List Int} (hl : l.length ≤ 1073741824) : Ev (fun k => trustquorummake_Ints.f k l l) true :=
  Ev.congr (fun k => by unfold trustquorummake_Ints.f; rw [if_pos rfl]; rfl) (ints_l hl l.length 0 (by omega))
theorem blks_eq (t : TT) : blksT t = leastL (setsOf (blkP t)) := rfl
/-- The sets that meet all slices. -/
theorem meet_slices {n d : Nat} (hn : n ≤ 10) (hd : d ≤ 8) {t : TT} (h : SmN n d t) : Ev (fun k => trustquorumref01_Meeting.f k (minsT t) n) (blksT t, 0) := by
  have e : leastL (lowList n (meets (minsT t))) = blksT t := least_lowList hn (blk_low hn h) _ fun s _ => by
    show (minsT t).all _ = _
    rw [blkP_eq]; exact meet_all (sat_grows h.smd.sm) s
  refine ev_val (meeting_ev hn (least_len _) fun x hx => ?_) (by rw [e])
  obtain ⟨s, rfl, _, hs⟩ := least_low (sat_low hn h) hx
  exact ⟨by omega, by omega⟩
/-- The sets that meet all blocking sets. -/
theorem meet_blocking {n d : Nat} (hn : n ≤ 10) (hd : d ≤ 8) {t : TT} (h : SmN n d t) : Ev (fun k => trustquorumref01_Meeting.f k (blksT t) n) (minsT t, 0) := by
  have e : leastL (lowList n (meets (blksT t))) = minsT t := least_lowList hn (sat_low hn h) _ fun s _ => by
    show (blksT t).all _ = _
    rw [blks_eq, meet_all (blk_grows h.smd.sm) s, blkP_eq, flip_flip, Bool.not_not]
  refine ev_val (meeting_ev hn (least_len _) fun x hx => ?_) (by rw [e])
  obtain ⟨s, rfl, _, hs⟩ := least_low (blk_low hn h) hx
  exact ⟨by omega, by omega⟩
end Go.Proofs.Ytfkpimjiaijmgaa.Q
end
section
namespace Go.Proofs.Ytfkpimjiaijmgaa.Q
open Go.RowKit Go.Proofs.Ytfkpimjiaijmgaa.G Go.Proofs.YtfkpimjiaijmgaaW.PrintWords Go.Proofs.YtfkpimjiaijmgaaW.PrintLast Go.Proofs.YtfkpimjiaijmgaaW.PrintMore Go.Proofs.YtfkpimjiaijmgaaV
set_option linter.unusedVariables false
theorem slicesDual_true : trustquorumlaw05_SlicesDual.Pure := by
  intro l0 _ _ _
  obtain ⟨tl, e0, hp0⟩ := tape_new l0
  obtain ⟨n, p1, e1, n0, n1, hp1⟩ := tape_Range hp0 1 8 (by omega) (by omega) (by omega)
  obtain ⟨n, rfl⟩ := Int.eq_ofNat_of_zero_le (show 0 ≤ n by omega)
  obtain ⟨a, ls, ts, p2, e2, hsn, hv, hp2⟩ := mk_Trust (n := n) (by omega) (by omega) 2 (by omega) hp1
  have h3 := slices_ev (by omega) hsn.smd hv
  have h4 := blocking_ev (by omega) hsn.smd hv
  have h5 := meet_slices (by omega) (by omega) hsn
  have h6 := meet_blocking (by omega) (by omega) hsn
  generalize hA : minsT ⟨a, ls, ts⟩ = A at *
  generalize hB : blksT ⟨a, ls, ts⟩ = B at *
  have hAl : A.length ≤ 1024 := by rw [← hA]; exact least_len _
  have hBl : B.length ≤ 1024 := by rw [← hB]; exact least_len _
  have h7 := ints_same (l := A) (by omega)
  have h8 := ints_same (l := B) (by omega)
  have h9 : Ev (fun k => (trustquorummake_Ints.f k B B).bind fun t => if t = true then (trustquorummake_Ints.f k A A).bind fun t => if t = true then trustquorumlaw05_awake.f.bind fun t => some t else some false else some false) true :=
    Ev.bind (f := fun k (t : Bool) => if t = true then (trustquorummake_Ints.f k A A).bind fun t => if t = true then trustquorumlaw05_awake.f.bind fun t => some t else some false else some false) h8
      (Ev.bind (f := fun k (t : Bool) => if t = true then trustquorumlaw05_awake.f.bind fun t => some t else some false) h7 (Ev.now _))
  obtain ⟨k2, h2⟩ := e2
  obtain ⟨k3, h3⟩ := h3
  obtain ⟨k4, h4⟩ := h4
  obtain ⟨k5, h5⟩ := h5
  obtain ⟨k6, h6⟩ := h6
  obtain ⟨k9, h9⟩ := h9
  have hk : ∃ k, k2 ≤ k ∧ k3 ≤ k ∧ k4 ≤ k ∧ k5 ≤ k ∧ k6 ≤ k ∧ k9 ≤ k := ⟨k2 + k3 + k4 + k5 + k6 + k9, by omega⟩
  obtain ⟨k, g2, g3, g4, g5, g6, g9⟩ := hk
  refine ⟨k, ?_⟩
  have z2 := h2 k g2
  have z3 := h3 k g3
  have z4 := h4 k g4
  have z5 := h5 k g5
  have z6 := h6 k g6
  have z9 := h9 k g9
  simp only at z2 z3 z4 z5 z6 z9
  unfold trustquorumlaw05_SlicesDual.f
  rw [e0]; simp only [Option.bind_some]
  rw [e1]; simp only [Option.bind_some]
  rw [show ((2 + 1 : Nat) : Int) = 3 from rfl] at z2
  rw [z2]; simp only [Option.bind_some]
  rw [z3]; simp only [Option.bind_some]
  rw [z4]; simp only [Option.bind_some]
  rw [z5]; simp only [Option.bind_some]
  rw [z6]; simp only [Option.bind_some, if_true]
  exact z9
end Go.Proofs.Ytfkpimjiaijmgaa.Q
end
section
namespace Go.Proofs.Ytfkpimjiaijmgaa.Pure
open Go.RowKit Go.Proofs.Ytfkpimjiaijmgaa.G Go.Proofs.YtfkpimjiaijmgaaW.PrintWords Go.Proofs.YtfkpimjiaijmgaaW.PrintLast
/-- YOURS: ∀ (l0 : List Int), l0.length ≤ maxLen → l0.length * 8 ≤ 140737488351232 → (∀ x ∈ l0, (Lit.int .i64 x).wf = true) → ∃ k, trustquorumlaw05_SlicesDual.f k l0 = some true
What it reaches (each with k first where it has rounds; `.mono`: more rounds tell the same; `.l0`, ..: its loops, with `.mono_l`): trustquorummake_New.f, trustquorummake_Tape_N.f, trustquorummake_Tape_Range.f, trustquorummake_Tape_Order.f, trustquorummake_Tape_Pick.f, trustquorummake_trust.f, trustquorumref02_Depth.f, trustquorumref02_Size.f, trustquorumref01_Valid.f, trustquorumref01_Has.f, trustquorumref01_Of.f, trustquorumref02_check.f, trustquorumref02_Valid.f, trustquorummake_Trust.f, threshold_Depth.f, threshold_Size.f, nodeset_below.f, nodeset_Valid.f, nodeset_Has.f, nodeset_Of.f, threshold_node.f, threshold_level_1.f, threshold_level.f, threshold_Valid.f, cmp_Or_int.f, cmp_isNaN_int.f, cmp_Compare_int.f, bits_OnesCount64.f, bits_OnesCount.f, nodeset_Size.f, nodeset_rank.f, nodeset_Compare.f, nodeset_Least.f, nodeset_Next.f, slices_inOrder.f, slices_least.f, threshold_Satisfied.f, slices_Slices.f, threshold_Blocked.f, slices_Blocking.f, trustquorummake_Ints.f, trustquorumlaw05_awake.f, trustquorumref01_Size.f, trustquorumref01_Compare.f, trustquorumref01_Least.f, trustquorumref01_Meeting.f, trustquorumlaw05_SlicesDual.f -/
theorem SlicesDual : trustquorumlaw05_SlicesDual.Pure := Q.slicesDual_true
end Go.Proofs.Ytfkpimjiaijmgaa.Pure
end
section
namespace Go.Proofs.Ytfkpimjiaijmgaa.slicesDual
open Go.ChangeShapes Go.WideShapes Go.ChangeAt Go.RowKit
open Go.ChangeMaps (open_string shut_string)
set_option linter.unusedVariables false
theorem own : ownKnob Try.prog.godebug = none := by kernel_rfl
theorem laidOut : laidOutB Try.prog = true := by kernel_rfl
def IsRow (k : IntKind) (w : World) (a : Option Addr) (len cap : Nat) (zs : List Int) : Prop :=
  (a = none ∧ len = 0 ∧ cap = 0 ∧ zs = []) ∨
  ∃ x, a = some x ∧ len ≤ cap ∧ cap ≤ maxLen ∧ zs.length = cap ∧ (∀ i, i < zs.length → w.cell? (x.add i) = some (.int k (zs.getD i 0))) ∧ ∀ n ∈ zs, (Lit.int k n).wf = true
set_option maxRecDepth 100000 in
theorem lifted (os : Os) (started : os.Started) (H : Type) (enc : TypeId × Value → H) :
    ReturnsInHanded {} Try.checked os 4 .any (Rows.slicesDualSpec.pre6 enc Try.prog Try.f4 Rows.slicesDualRow.domain false) (Rows.slicesDualSpec.post enc Try.prog Try.f4 false true false false) := by
  refine returnsInHanded_of_change_sized (C := Try.checked) own started (by kernel_rfl) Try.func4
    (ChangeSpec.witness6 (enc := enc) (C := Try.checked) false ⟨#[], #[.slice none 0 0], []⟩ 8 (by kernel_rfl) (by kernel_rfl) (by kernel_rfl) (by kernel_rfl)) ?_
  intro W base args ds gs before hval0 hW hcnd hsz0 _
  have hsz : (DataW.weightsEach Try.prog (Try.f4.params.toList ++ Rows.slicesDualSpec.plain.varTypes Try.prog) (ds ++ gs)).all (· ≤ reachBytes) = true := hsz0
  have hval : ∀ (j : Nat) t v, Try.f4.params[j]? = some t → args[j]? = some v → Value.okWide Try.prog W .any base t v := hval0
  have hW' := hW
  obtain ⟨p, q, hA0, hV, rfl, hfz, hnd⟩ := hW
  have hA : DataW.TrodAll enc Try.prog W 0 (fun _ => true) true Try.f4.params.toList args.toList ds p := hA0
  rw [Try.params4] at hA hval hsz
  obtain ⟨v0, vs0, d0, ds0, p0, q0, hargs, rfl, rfl, h0, r0⟩ := trodAll_cons hA
  obtain ⟨rfl, rfl, rfl⟩ := trodAll_nil r0
  obtain rfl : args = #[v0] := by cases args; simp_all
  obtain ⟨rfl, rfl⟩ := trodVars_none hV
  obtain ⟨a0, len0, cap0, rfl⟩ := okWide_slice Try.underlying22 (hval 0 22 v0 rfl rfl)
  have k0 := h0
  have lt0 : ∀ x ∈ p0, x.block < W.heap.size := by obtain ⟨m, hm⟩ := k0; exact DataW.trod_lt m _ _ _ hm
  obtain ⟨z0, w0⟩ : ∃ zs, IsRow .i64 W a0 len0 cap0 zs := by
    obtain ⟨fuel, hf⟩ := h0
    rcases open_ints Try.underlying22 Try.underlying3 (by kernel_rfl) hf with ⟨hcs, _⟩ | ⟨x, l, c, zs, hcs, _, hl, hm, hz, _, hcell, hwz⟩
    · simp [Value.cells] at hcs
      obtain ⟨rfl, rfl, rfl⟩ := hcs
      exact ⟨[], .inl ⟨rfl, rfl, rfl, rfl⟩⟩
    · simp [Value.cells] at hcs
      obtain ⟨rfl, rfl, rfl⟩ := hcs
      exact ⟨zs, .inr ⟨_, rfl, hl, hm, by simpa using hz, hcell, hwz⟩⟩
  have y0 : len0 * 8 ≤ 140737488351232 := Go.Proofs.YtfkpimjiaijmgaaW.PrintWords.sized_ints hsz (j := 0) (t := 22) rfl rfl Try.underlying22 Try.underlying3 (by kernel_rfl) (by kernel_rfl) h0
  clear hA0 hval0 hsz0 hsz
  refine (G.trustquorumlaw05_SlicesDual.walk Pure.SlicesDual a0 len0 cap0 z0 W w0 y0).mono fun e W' ⟨he, bel⟩ => ?_
  subst he
  exact ⟨_, rfl, _, _, _, [], _, [], hW', trodAll_mk1 (shut_bool Try.underlying4 _), (trodAll_cons_mk (Below.trod laidOut (by kernel_rfl) (of_decide_eq_true (by kernel_rfl)) k0 bel lt0) trodAll_mk0), rfl, bel.frame _, fun h => by cases h⟩
theorem over : Rows.slicesDualRow.holds Try.pinned (OpenSpec.ofChange Rows.slicesDualSpec) :=
  OpenClaim.holds_of_wide 4 Try.f4 rfl rfl rfl rfl rfl rfl rfl ⟨rfl, rfl, rfl, rfl, rfl⟩ rfl rfl rfl rfl rfl (by kernel_rfl) Try.func4 (by kernel_rfl)
    (of_decide_eq_true (by kernel_rfl)) (by unfold Func.isWrapper; first | (rw [if_pos (by decide +kernel)]; kernel_rfl) | (rw [if_neg (by decide +kernel)]; exact ⟨rfl, rfl⟩))
    (fun os started H enc _ => lifted os started H enc)
theorem proved : Rows.SlicesDualSaid := over
end Go.Proofs.Ytfkpimjiaijmgaa.slicesDual
namespace Go.Proofs.Ytfkpimjiaijmgaa
/-- The row, under a short name, for the claim. -/
theorem slicesDual_holds : Rows.SlicesDualSaid := slicesDual.proved
end Go.Proofs.Ytfkpimjiaijmgaa
end
#print axioms Go.Proofs.Ytfkpimjiaijmgaa.slicesDual_holds
