/- Trusts as trees: what the readers of a trust tell, of the program and of the reference. -/
import Derived.Test.YtfkpimjiaijmgaaGx0
import Derived.Test.YtfkpimjiaijmgaaGx12
import Derived.Test.YtfkpimjiaijmgaaGx14
import Derived.Test.YtfkpimjiaijmgaaVLeast
import Derived.Test.YtfkpimjiaijmgaaQTape
import Derived.Test.YtfkpimjiaijmgaaQHas
namespace Go.Proofs.Ytfkpimjiaijmgaa.Q
open Go.RowKit Go.Proofs.Ytfkpimjiaijmgaa.G Go.Proofs.YtfkpimjiaijmgaaW.PrintWords Go.Proofs.YtfkpimjiaijmgaaW.PrintLast Go.Proofs.YtfkpimjiaijmgaaW.PrintMore Go.Proofs.YtfkpimjiaijmgaaV
set_option linter.unusedVariables false
abbrev TT := S27
/-- A trust all of whose lists are short. -/
inductive Sm : TT → Prop
  | mk (a : Int) (l : List Int) (ts : List TT) (h1 : l.length ≤ 1073741824) (h2 : ts.length ≤ 1073741824) (h3 : ∀ t ∈ ts, Sm t) : Sm ⟨a, l, ts⟩
theorem Sm.len {a : Int} {l : List Int} {ts : List TT} (h : Sm ⟨a, l, ts⟩) : l.length ≤ 1073741824 ∧ ts.length ≤ 1073741824 ∧ ∀ t ∈ ts, Sm t := by
  cases h with | mk _ _ _ h1 h2 h3 => exact ⟨h1, h2, h3⟩
theorem rdT_mem {ts : List TT} {i : Int} (h0 : 0 ≤ i) (h1 : i < ts.length) : rd_T27 ts i = ts[i.toNat]'(by omega) := by
  unfold rd_T27
  rw [List.getD_eq_getElem?_getD, List.getElem?_eq_getElem (by omega)]; rfl
theorem ev_val {α : Type} {f : Nat → Option α} {a b : α} (h : Ev f a) (e : a = b) : Ev f b := e ▸ h
/-! ### Satisfied -/
def satT : TT → Int → Bool
  | ⟨a, l, ts⟩, s => isSet s && decide (a ≤ ((l.filter (hasI s)).length + (ts.attach.filter fun x => satT x.1 s).length : Nat))
termination_by t => SizeOf.sizeOf t
decreasing_by
  have := List.sizeOf_lt_of_mem x.2
  simp_wf; omega
theorem satT_eq (a : Int) (l : List Int) (ts : List TT) (s : Int) : satT ⟨a, l, ts⟩ s = (isSet s && decide (a ≤ ((l.filter (hasI s)).length + (ts.filter fun x => satT x s).length : Nat))) := by
  have h : (ts.attach.filter fun x => satT x.1 s).length = (ts.filter fun x => satT x s).length := by
    rw [← List.countP_eq_length_filter, ← List.countP_eq_length_filter]
    exact List.countP_attach (l := ts) (p := fun x => satT x s)
  rw [satT, h]
theorem sat_l1 {s : Int} (a : Int) (l : List Int) (ts0 ts : List TT) (hl : ts.length ≤ 1073741824) (ih : ∀ t ∈ ts, Ev (fun k => threshold_Satisfied.f k t.f0 t.f1 t.f2 s) (satT t s)) : ∀ (d i : Nat) (c : Nat), i + d = ts.length → c ≤ 1073741824 + i →
    Ev (fun k => threshold_Satisfied.l1 k s c ts ts.length i a l ts0) (decide (a ≤ (c + ((ts.drop i).filter fun x => satT x s).length : Nat)))
  | 0, i, c, hi, hc => Ev.step (f := fun _ => some (decide (a ≤ (c + ((ts.drop i).filter fun x => satT x s).length : Nat)))) (fun k => by
      simp only [threshold_Satisfied.l1]
      rw [if_neg (by omega), List.drop_of_length_le (by omega)]; simp only [List.filter_nil, List.length_nil, Nat.add_zero, ge_iff_le]; rfl) (Ev.now _)
  | d + 1, i, c, hi, hc => by
    have hlt : i < ts.length := by omega
    have e : (ts.drop i) = ts[i] :: ts.drop (i + 1) := List.drop_eq_getElem_cons hlt
    have w1 : wrap64 ((i : Int) + 1) = ((i + 1 : Nat) : Int) := by rw [wrap_of (by omega) (by omega)]; omega
    have w2 : wrap64 ((c : Int) + 1) = ((c + 1 : Nat) : Int) := by rw [wrap_of (by omega) (by omega)]; omega
    have hr := rdT_mem (ts := ts) (i := (i : Int)) (by omega) (by omega)
    have hi1 := ih ts[i] (List.getElem_mem hlt)
    refine Ev.step (f := fun k => (threshold_Satisfied.f k ts[i].f0 ts[i].f1 ts[i].f2 s).bind fun t => if t = true then threshold_Satisfied.l1 k s ((c + 1 : Nat) : Int) ts ts.length ((i + 1 : Nat) : Int) a l ts0 else threshold_Satisfied.l1 k s c ts ts.length ((i + 1 : Nat) : Int) a l ts0) (fun k => ?_) (Ev.bind hi1 ?_)
    · simp only [threshold_Satisfied.l1]
      rw [if_pos (by omega), if_pos (by omega), if_pos (by omega), hr, w1, w2]; rfl
    · rw [e, List.filter_cons]
      cases satT ts[i] s with
      | true =>
        have := sat_l1 a l ts0 ts hl ih d (i + 1) (c + 1) (by omega) (by omega)
        exact ev_val this (by simp [Nat.add_assoc, Nat.add_comm 1])
      | false =>
        have := sat_l1 a l ts0 ts hl ih d (i + 1) c (by omega) (by omega)
        exact ev_val this (by simp)
theorem sat_l0 {s : Int} (a : Int) (l0 l : List Int) (ts : List TT) (hl : l.length ≤ 1073741824) (ht : ts.length ≤ 1073741824) (ih : ∀ t ∈ ts, Ev (fun k => threshold_Satisfied.f k t.f0 t.f1 t.f2 s) (satT t s)) : ∀ (d i : Nat) (c : Nat), i + d = l.length → c ≤ i →
    Ev (fun k => threshold_Satisfied.l0 k s c l l.length i a l0 ts) (decide (a ≤ ((c + ((l.drop i).filter (hasI s)).length) + (ts.filter fun x => satT x s).length : Nat)))
  | 0, i, c, hi, hc => by
    have := sat_l1 (s := s) a l0 ts ts ht ih ts.length 0 c (by omega) (by omega)
    refine ev_val (Ev.step (fun k => ?_) this) (by rw [List.drop_of_length_le (by omega : l.length ≤ i), List.drop_zero]; rfl)
    simp only [threshold_Satisfied.l0]
    rw [if_neg (by omega)]; rfl
  | d + 1, i, c, hi, hc => by
    have hlt : i < l.length := by omega
    have e : (l.drop i) = l[i] :: l.drop (i + 1) := List.drop_eq_getElem_cons hlt
    have w1 : wrap64 ((i : Int) + 1) = ((i + 1 : Nat) : Int) := by rw [wrap_of (by omega) (by omega)]; omega
    have w2 : wrap64 ((c : Int) + 1) = ((c + 1 : Nat) : Int) := by rw [wrap_of (by omega) (by omega)]; omega
    have hr : rd l (i : Int) = l[i] := by unfold rd; rw [List.getD_eq_getElem?_getD, Int.toNat_natCast, List.getElem?_eq_getElem hlt]; rfl
    rw [e, List.filter_cons]
    cases hh : hasI s l[i] with
    | true =>
      have := sat_l0 a l0 l ts hl ht ih d (i + 1) (c + 1) (by omega) (by omega)
      refine ev_val (Ev.step (fun k => ?_) this) (by simp [Nat.add_assoc, Nat.add_comm 1])
      simp only [threshold_Satisfied.l0]
      rw [if_pos (by omega), if_pos (by omega), if_pos (by omega), hr, has_eq, hh]
      simp only [Option.bind_some, if_true]
      rw [w1, w2]
    | false =>
      have := sat_l0 a l0 l ts hl ht ih d (i + 1) c (by omega) (by omega)
      refine ev_val (Ev.step (fun k => ?_) this) (by simp)
      simp only [threshold_Satisfied.l0]
      rw [if_pos (by omega), if_pos (by omega), if_pos (by omega), hr, has_eq, hh]
      simp only [Option.bind_some, Bool.false_eq_true, if_false]
      rw [w1]
theorem sat_ev (s : Int) : ∀ {t : TT}, Sm t → Ev (fun k => threshold_Satisfied.f k t.f0 t.f1 t.f2 s) (satT t s) := by
  intro t ht
  induction ht with
  | mk a l ts h1 h2 h3 ih =>
    rw [satT_eq]
    cases hs : isSet s with
    | false =>
      refine Ev.step (f := fun _ => some false) (fun k => ?_) (Ev.now _)
      simp only [threshold_Satisfied.f]
      rw [valid_eqI, hs]; rfl
    | true =>
      have := sat_l0 (s := s) a l l ts h1 h2 ih l.length 0 0 (by omega) (by omega)
      refine ev_val (Ev.step (fun k => ?_) this) (by simp)
      simp only [threshold_Satisfied.f]
      rw [valid_eqI, hs]; rfl
theorem blk_ev (s : Int) {t : TT} (ht : Sm t) : Ev (fun k => threshold_Blocked.f k t.f0 t.f1 t.f2 s) (isSet s && !satT t (1023 - s)) := by
  cases hs : isSet s with
  | false =>
    refine Ev.congr (fun k => ?_) (Ev.now _)
    unfold threshold_Blocked.f
    rw [valid_eqI, hs]; rfl
  | true =>
    obtain ⟨n, rfl, hn⟩ := isSet_nat hs
    have w : wrap64 (1023 - (n : Int)) = 1023 - (n : Int) := wrap_of (by omega) (by omega)
    refine Ev.congr (f := fun k => (threshold_Satisfied.f k t.f0 t.f1 t.f2 (1023 - (n : Int))).bind fun b => some (!b)) (fun k => ?_) (Ev.bind (sat_ev _ ht) (Ev.now _))
    unfold threshold_Blocked.f
    rw [valid_eqI, hs, w]; rfl
theorem refsat_l1 {s : Int} (a : Int) (l : List Int) (ts0 ts : List TT) (hl : ts.length ≤ 1073741824) (ih : ∀ t ∈ ts, Ev (fun k => trustquorumref02_Satisfied.f k t.f0 t.f1 t.f2 s) (satT t s)) : ∀ (d i : Nat) (c : Nat), i + d = ts.length → c ≤ 1073741824 + i →
    Ev (fun k => trustquorumref02_Satisfied.l1 k s c ts ts.length i a l ts0) (decide (a ≤ (c + ((ts.drop i).filter fun x => satT x s).length : Nat)))
  | 0, i, c, hi, hc => Ev.step (f := fun _ => some (decide (a ≤ (c + ((ts.drop i).filter fun x => satT x s).length : Nat)))) (fun k => by
      simp only [trustquorumref02_Satisfied.l1]
      rw [if_neg (by omega), List.drop_of_length_le (by omega)]; simp only [List.filter_nil, List.length_nil, Nat.add_zero, ge_iff_le]; rfl) (Ev.now _)
  | d + 1, i, c, hi, hc => by
    have hlt : i < ts.length := by omega
    have e : (ts.drop i) = ts[i] :: ts.drop (i + 1) := List.drop_eq_getElem_cons hlt
    have w1 : wrap64 ((i : Int) + 1) = ((i + 1 : Nat) : Int) := by rw [wrap_of (by omega) (by omega)]; omega
    have w2 : wrap64 ((c : Int) + 1) = ((c + 1 : Nat) : Int) := by rw [wrap_of (by omega) (by omega)]; omega
    have hr := rdT_mem (ts := ts) (i := (i : Int)) (by omega) (by omega)
    have hi1 := ih ts[i] (List.getElem_mem hlt)
    refine Ev.step (f := fun k => (trustquorumref02_Satisfied.f k ts[i].f0 ts[i].f1 ts[i].f2 s).bind fun t => if t = true then trustquorumref02_Satisfied.l1 k s ((c + 1 : Nat) : Int) ts ts.length ((i + 1 : Nat) : Int) a l ts0 else trustquorumref02_Satisfied.l1 k s c ts ts.length ((i + 1 : Nat) : Int) a l ts0) (fun k => ?_) (Ev.bind hi1 ?_)
    · simp only [trustquorumref02_Satisfied.l1]
      rw [if_pos (by omega), if_pos (by omega), if_pos (by omega), hr, w1, w2]; rfl
    · rw [e, List.filter_cons]
      cases satT ts[i] s with
      | true =>
        have := refsat_l1 a l ts0 ts hl ih d (i + 1) (c + 1) (by omega) (by omega)
        exact ev_val this (by simp [Nat.add_assoc, Nat.add_comm 1])
      | false =>
        have := refsat_l1 a l ts0 ts hl ih d (i + 1) c (by omega) (by omega)
        exact ev_val this (by simp)
theorem refsat_l0 {s : Int} (a : Int) (l0 l : List Int) (ts : List TT) (hl : l.length ≤ 1073741824) (ht : ts.length ≤ 1073741824) (ih : ∀ t ∈ ts, Ev (fun k => trustquorumref02_Satisfied.f k t.f0 t.f1 t.f2 s) (satT t s)) : ∀ (d i : Nat) (c : Nat), i + d = l.length → c ≤ i →
    Ev (fun k => trustquorumref02_Satisfied.l0 k s c l l.length i a l0 ts) (decide (a ≤ ((c + ((l.drop i).filter (hasI s)).length) + (ts.filter fun x => satT x s).length : Nat)))
  | 0, i, c, hi, hc => by
    have := refsat_l1 (s := s) a l0 ts ts ht ih ts.length 0 c (by omega) (by omega)
    refine ev_val (Ev.step (fun k => ?_) this) (by rw [List.drop_of_length_le (by omega : l.length ≤ i), List.drop_zero]; rfl)
    simp only [trustquorumref02_Satisfied.l0]
    rw [if_neg (by omega)]; rfl
  | d + 1, i, c, hi, hc => by
    have hlt : i < l.length := by omega
    have e : (l.drop i) = l[i] :: l.drop (i + 1) := List.drop_eq_getElem_cons hlt
    have w1 : wrap64 ((i : Int) + 1) = ((i + 1 : Nat) : Int) := by rw [wrap_of (by omega) (by omega)]; omega
    have w2 : wrap64 ((c : Int) + 1) = ((c + 1 : Nat) : Int) := by rw [wrap_of (by omega) (by omega)]; omega
    have hr : rd l (i : Int) = l[i] := by unfold rd; rw [List.getD_eq_getElem?_getD, Int.toNat_natCast, List.getElem?_eq_getElem hlt]; rfl
    rw [e, List.filter_cons]
    cases hh : hasI s l[i] with
    | true =>
      have := refsat_l0 a l0 l ts hl ht ih d (i + 1) (c + 1) (by omega) (by omega)
      refine ev_val (Ev.step (fun k => ?_) this) (by simp [Nat.add_assoc, Nat.add_comm 1])
      simp only [trustquorumref02_Satisfied.l0]
      rw [if_pos (by omega), if_pos (by omega), if_pos (by omega), hr, refHas_eq, hh]
      simp only [Option.bind_some, if_true]
      rw [w1, w2]
    | false =>
      have := refsat_l0 a l0 l ts hl ht ih d (i + 1) c (by omega) (by omega)
      refine ev_val (Ev.step (fun k => ?_) this) (by simp)
      simp only [trustquorumref02_Satisfied.l0]
      rw [if_pos (by omega), if_pos (by omega), if_pos (by omega), hr, refHas_eq, hh]
      simp only [Option.bind_some, Bool.false_eq_true, if_false]
      rw [w1]
theorem refsat_ev (s : Int) : ∀ {t : TT}, Sm t → Ev (fun k => trustquorumref02_Satisfied.f k t.f0 t.f1 t.f2 s) (satT t s) := by
  intro t ht
  induction ht with
  | mk a l ts h1 h2 h3 ih =>
    rw [satT_eq]
    cases hs : isSet s with
    | false =>
      refine Ev.step (f := fun _ => some false) (fun k => ?_) (Ev.now _)
      simp only [trustquorumref02_Satisfied.f]
      rw [refValid_eq, hs]; rfl
    | true =>
      have := refsat_l0 (s := s) a l l ts h1 h2 ih l.length 0 0 (by omega) (by omega)
      refine ev_val (Ev.step (fun k => ?_) this) (by simp)
      simp only [trustquorumref02_Satisfied.f]
      rw [refValid_eq, hs]; rfl
theorem refblk_ev (s : Int) {t : TT} (ht : Sm t) : Ev (fun k => trustquorumref02_Blocked.f k t.f0 t.f1 t.f2 s) (isSet s && !satT t (1023 - s)) := by
  cases hs : isSet s with
  | false =>
    refine Ev.congr (fun k => ?_) (Ev.now _)
    unfold trustquorumref02_Blocked.f
    rw [refValid_eq, hs]; rfl
  | true =>
    obtain ⟨n, rfl, hn⟩ := isSet_nat hs
    have w : wrap64 (1023 - (n : Int)) = 1023 - (n : Int) := wrap_of (by omega) (by omega)
    refine Ev.congr (f := fun k => (trustquorumref02_Satisfied.f k t.f0 t.f1 t.f2 (1023 - (n : Int))).bind fun b => some (!b)) (fun k => ?_) (Ev.bind (refsat_ev _ ht) (Ev.now _))
    unfold trustquorumref02_Blocked.f
    rw [refValid_eq, hs, w]; rfl
end Go.Proofs.Ytfkpimjiaijmgaa.Q
