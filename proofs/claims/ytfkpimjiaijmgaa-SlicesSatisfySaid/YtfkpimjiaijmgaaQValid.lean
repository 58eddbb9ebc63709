/- Is a trust valid: the program and the reference tell the same code. -/
import Derived.Test.YtfkpimjiaijmgaaGx0
import Derived.Test.YtfkpimjiaijmgaaGx2
import Derived.Test.YtfkpimjiaijmgaaGx3
import Derived.Test.YtfkpimjiaijmgaaGx4
import Derived.Test.YtfkpimjiaijmgaaGx5
import Derived.Test.YtfkpimjiaijmgaaGx6
import Derived.Test.YtfkpimjiaijmgaaGx7
import Derived.Test.YtfkpimjiaijmgaaVLeast
import Derived.Test.YtfkpimjiaijmgaaQTape
import Derived.Test.YtfkpimjiaijmgaaQHas
import Derived.Test.YtfkpimjiaijmgaaQTrust
namespace Go.Proofs.Ytfkpimjiaijmgaa.Q
open Go.RowKit Go.Proofs.Ytfkpimjiaijmgaa.G Go.Proofs.YtfkpimjiaijmgaaW.PrintWords Go.Proofs.YtfkpimjiaijmgaaW.PrintLast Go.Proofs.YtfkpimjiaijmgaaW.PrintMore Go.Proofs.YtfkpimjiaijmgaaV
set_option linter.unusedVariables false
/-! ### Of: the list as a set, or the first fault -/
def ofV : Nat → List Int → Int × Int
  | n, [] => ((n : Int), 0)
  | n, x :: l => if isNode x then (if n.testBit x.toNat then (0, 6) else ofV (n ||| 2 ^ x.toNat) l) else (0, 5)
theorem or_bit : ∀ (n : Nat), n < 1024 → ∀ m : Nat, m < 10 → Go.bits .or .i64 (n : Int) (shl .i64 1 (m : Int)) = ((n ||| 2 ^ m : Nat) : Int) ∧ n ||| 2 ^ m < 1024 := fun n hn m hm =>
  (by decide +kernel : ∀ n : Fin 1024, ∀ m : Fin 10, Go.bits .or .i64 (n.1 : Int) (shl .i64 1 (m.1 : Int)) = ((n.1 ||| 2 ^ m.1 : Nat) : Int) ∧ n.1 ||| 2 ^ m.1 < 1024) ⟨n, hn⟩ ⟨m, hm⟩
theorem isNode_nat {x : Int} (h : isNode x = true) : ∃ m : Nat, x = (m : Int) ∧ m < 10 := by
  simp only [isNode, Bool.and_eq_true, decide_eq_true_eq] at h
  exact ⟨x.toNat, by omega, by omega⟩
theorem set_of_lt {n : Nat} (h : n < 1024) : isSet (n : Int) = true := by simp [isSet]; omega
theorem has_nat {n m : Nat} (hn : n < 1024) (hm : m < 10) : hasI (n : Int) (m : Int) = n.testBit m := by
  simp [hasI, set_of_lt hn]; omega
theorem rd_get {l : List Int} {i : Nat} (h : i < l.length) : rd l (i : Int) = l[i] := by
  unfold rd; rw [List.getD_eq_getElem?_getD, Int.toNat_natCast, List.getElem?_eq_getElem h]; rfl
theorem up {i : Nat} (h : i ≤ 4611686018427387904) : wrap64 ((i : Int) + 1) = ((i + 1 : Nat) : Int) := by rw [wrap_of (by omega) (by omega)]; omega
theorem of_l0 {l : List Int} (hl : l.length ≤ 1073741824) : ∀ (d i n : Nat), i + d = l.length → n < 1024 → Ev (fun k => nodeset_Of.l0 k n l l.length i) (ofV n (l.drop i))
  | 0, i, n, hi, hn => by
    rw [List.drop_of_length_le (by omega)]
    refine Ev.step (f := fun _ => some ((n : Int), 0)) (fun k => ?_) (Ev.now _)
    simp only [nodeset_Of.l0]; rw [if_neg (by omega)]
  | d + 1, i, n, hi, hn => by
    have hlt : i < l.length := by omega
    have e : (l.drop i) = l[i] :: l.drop (i + 1) := List.drop_eq_getElem_cons hlt
    have hr := rd_get hlt
    rw [e]
    cases hx : isNode l[i] with
    | false =>
      refine ev_val (a := (0, 5)) ?_ (by rw [ofV, hx]; rfl)
      refine Ev.step (f := fun k => nodeset_Of.j1 k n l[i] l l.length i true) (fun k => ?_) (Ev.step (f := fun _ => some (0, 5)) (fun k => by simp only [nodeset_Of.j1]; rfl) (Ev.now _))
      simp only [nodeset_Of.l0]
      rw [if_pos (by omega), if_pos (by omega), if_pos (by omega), hr]
      have hx' : ¬ (0 ≤ l[i] ∧ l[i] < 10) := by simpa [isNode] using hx
      by_cases c : l[i] < 0
      · rw [if_pos c]
      · rw [if_neg c, decide_eq_true (by omega)]
    | true =>
      obtain ⟨m, em, hm⟩ := isNode_nat hx
      obtain ⟨hb, hb2⟩ := or_bit n hn m hm
      have ih := of_l0 hl d (i + 1) (n ||| 2 ^ m) (by omega) hb2
      refine Ev.step (f := fun k => nodeset_Of.j1 k n (m : Int) l l.length i false) (fun k => ?_) ?_
      · simp only [nodeset_Of.l0]
        rw [if_pos (by omega), if_pos (by omega), if_pos (by omega), hr, em, if_neg (by omega), decide_eq_false (by omega)]
      · cases ht : n.testBit m with
        | true =>
          refine ev_val (a := (0, 6)) (Ev.step (f := fun _ => some (0, 6)) (fun k => ?_) (Ev.now _)) (by rw [ofV, hx, em, Int.toNat_natCast, ht]; rfl)
          simp only [nodeset_Of.j1]
          rw [has_eq, has_nat hn hm, ht]; rfl
        | false =>
          refine ev_val (Ev.step (fun k => ?_) ih) (by rw [ofV, hx, em, Int.toNat_natCast, ht]; rfl)
          simp only [nodeset_Of.j1]
          rw [has_eq, has_nat hn hm, ht]
          simp only [Option.bind_some, Bool.false_eq_true, if_false]
          rw [if_pos (by omega), hb, up (by omega)]
theorem of_ev {l : List Int} (hl : l.length ≤ 1073741824) : Ev (fun k => nodeset_Of.f k l) (ofV 0 l) := of_l0 hl l.length 0 0 (by omega) (by omega)
theorem refof_l0 {l : List Int} (hl : l.length ≤ 1073741824) : ∀ (d i n : Nat), i + d = l.length → n < 1024 → Ev (fun k => trustquorumref01_Of.l0 k n l l.length i) (ofV n (l.drop i))
  | 0, i, n, hi, hn => by
    rw [List.drop_of_length_le (by omega)]
    refine Ev.step (f := fun _ => some ((n : Int), 0)) (fun k => ?_) (Ev.now _)
    simp only [trustquorumref01_Of.l0]; rw [if_neg (by omega)]
  | d + 1, i, n, hi, hn => by
    have hlt : i < l.length := by omega
    have e : (l.drop i) = l[i] :: l.drop (i + 1) := List.drop_eq_getElem_cons hlt
    have hr := rd_get hlt
    rw [e]
    cases hx : isNode l[i] with
    | false =>
      refine ev_val (a := (0, 5)) ?_ (by rw [ofV, hx]; rfl)
      refine Ev.step (f := fun k => trustquorumref01_Of.j1 k n l[i] l l.length i true) (fun k => ?_) (Ev.step (f := fun _ => some (0, 5)) (fun k => by simp only [trustquorumref01_Of.j1]; rfl) (Ev.now _))
      simp only [trustquorumref01_Of.l0]
      rw [if_pos (by omega), if_pos (by omega), if_pos (by omega), hr]
      have hx' : ¬ (0 ≤ l[i] ∧ l[i] < 10) := by simpa [isNode] using hx
      by_cases c : l[i] < 0
      · rw [if_pos c]
      · rw [if_neg c, decide_eq_true (by omega)]
    | true =>
      obtain ⟨m, em, hm⟩ := isNode_nat hx
      obtain ⟨hb, hb2⟩ := or_bit n hn m hm
      have ih := refof_l0 hl d (i + 1) (n ||| 2 ^ m) (by omega) hb2
      refine Ev.step (f := fun k => trustquorumref01_Of.j1 k n (m : Int) l l.length i false) (fun k => ?_) ?_
      · simp only [trustquorumref01_Of.l0]
        rw [if_pos (by omega), if_pos (by omega), if_pos (by omega), hr, em, if_neg (by omega), decide_eq_false (by omega)]
      · cases ht : n.testBit m with
        | true =>
          refine ev_val (a := (0, 6)) (Ev.step (f := fun _ => some (0, 6)) (fun k => ?_) (Ev.now _)) (by rw [ofV, hx, em, Int.toNat_natCast, ht]; rfl)
          simp only [trustquorumref01_Of.j1]
          rw [refHas_eq, has_nat hn hm, ht]; rfl
        | false =>
          refine ev_val (Ev.step (fun k => ?_) ih) (by rw [ofV, hx, em, Int.toNat_natCast, ht]; rfl)
          simp only [trustquorumref01_Of.j1]
          rw [refHas_eq, has_nat hn hm, ht]
          simp only [Option.bind_some, Bool.false_eq_true, if_false]
          rw [if_pos (by omega), hb, up (by omega)]
theorem refof_ev {l : List Int} (hl : l.length ≤ 1073741824) : Ev (fun k => trustquorumref01_Of.f k l) (ofV 0 l) := refof_l0 hl l.length 0 0 (by omega) (by omega)
/-! ### Depth and size -/
def depthT : TT → Nat
  | ⟨_, _, ts⟩ => ts.attach.foldr (fun x r => max (depthT x.1) r) 0 + 1
termination_by t => SizeOf.sizeOf t
decreasing_by
  have := List.sizeOf_lt_of_mem x.2
  simp_wf; omega
theorem depthT_eq (a : Int) (l : List Int) (ts : List TT) : depthT ⟨a, l, ts⟩ = ts.foldr (fun x r => max (depthT x) r) 0 + 1 := by
  rw [depthT]; exact congrArg (· + 1) (List.foldr_attach (l := ts) (f := fun x r => max (depthT x) r) (b := 0))
def sizeT : TT → Nat
  | ⟨_, l, ts⟩ => l.length + ts.length + ts.attach.foldr (fun x r => sizeT x.1 + r) 0
termination_by t => SizeOf.sizeOf t
decreasing_by
  have := List.sizeOf_lt_of_mem x.2
  simp_wf; omega
theorem sizeT_eq (a : Int) (l : List Int) (ts : List TT) : sizeT ⟨a, l, ts⟩ = l.length + ts.length + ts.foldr (fun x r => sizeT x + r) 0 := by
  rw [sizeT]; exact congrArg (l.length + ts.length + ·) (List.foldr_attach (l := ts) (f := fun x r => sizeT x + r) (b := 0))
/-- At most d levels, ten nodes and three trusts on each. -/
def SmD : Nat → TT → Prop
  | 0, _ => False
  | d + 1, ⟨_, l, ts⟩ => l.length ≤ 10 ∧ ts.length ≤ 3 ∧ ∀ c ∈ ts, SmD d c
theorem SmD.sm : ∀ {d : Nat} {t : TT}, SmD d t → Sm t
  | 0, _, h => h.elim
  | d + 1, ⟨_, _, _⟩, h => .mk _ _ _ (by have := h.1; omega) (by have := h.2.1; omega) fun c hc => SmD.sm (h.2.2 c hc)
theorem SmD.more : ∀ {d : Nat} {t : TT}, SmD d t → SmD (d + 1) t
  | 0, _, h => h.elim
  | d + 1, ⟨_, _, _⟩, h => ⟨h.1, h.2.1, fun c hc => SmD.more (h.2.2 c hc)⟩
theorem SmD.upto {d e : Nat} {t : TT} (h : SmD d t) (he : d ≤ e) : SmD e t := by
  induction he with
  | refl => exact h
  | step _ ih => exact ih.more
theorem fold_max {ts : List TT} {f : TT → Nat} {d : Nat} (h : ∀ c ∈ ts, f c ≤ d) : ts.foldr (fun x r => max (f x) r) 0 ≤ d := by
  induction ts with
  | nil => exact Nat.zero_le _
  | cons t ts ih => exact Nat.max_le.2 ⟨h t (List.mem_cons_self ..), ih fun c hc => h c (List.mem_cons_of_mem _ hc)⟩
theorem fold_sum {ts : List TT} {f : TT → Nat} {d : Nat} (h : ∀ c ∈ ts, f c ≤ d) : ts.foldr (fun x r => f x + r) 0 ≤ ts.length * d := by
  induction ts with
  | nil => simp
  | cons t ts ih =>
    have h1 := h t (List.mem_cons_self ..)
    have h2 := ih fun c hc => h c (List.mem_cons_of_mem _ hc)
    simp only [List.foldr_cons, List.length_cons, Nat.succ_mul]; omega
theorem SmD.depth : ∀ {d : Nat} {t : TT}, SmD d t → depthT t ≤ d
  | 0, _, h => h.elim
  | d + 1, ⟨_, _, ts⟩, h => by
    rw [depthT_eq]
    have := fold_max (ts := ts) (f := depthT) (d := d) fun c hc => SmD.depth (h.2.2 c hc)
    omega
theorem SmD.size : ∀ {d : Nat} {t : TT}, SmD d t → sizeT t ≤ 13 * 4 ^ d
  | 0, _, h => h.elim
  | d + 1, ⟨_, l, ts⟩, h => by
    rw [sizeT_eq]
    have := fold_sum (ts := ts) (f := sizeT) (d := 13 * 4 ^ d) fun c hc => SmD.size (h.2.2 c hc)
    have h1 := h.1
    have h2 := h.2.1
    have h3 : ts.length * (13 * 4 ^ d) ≤ 3 * (13 * 4 ^ d) := Nat.mul_le_mul_right _ h2
    have h4 : 1 ≤ 4 ^ d := Nat.one_le_pow _ _ (by omega)
    rw [Nat.pow_succ]; omega
theorem depth_l0 {ts : List TT} (hl : ts.length ≤ 1073741824) (ih : ∀ t ∈ ts, Ev (fun k => threshold_Depth.f k t.f0 t.f1 t.f2) (depthT t : Int)) (hd : ∀ t ∈ ts, depthT t ≤ 1000) : ∀ (d i m : Nat), i + d = ts.length → m ≤ 1000 →
    Ev (fun k => threshold_Depth.l0 k m ts ts.length i) ((max m ((ts.drop i).foldr (fun x r => max (depthT x) r) 0) + 1 : Nat) : Int)
  | 0, i, m, hi, hm => by
    refine ev_val (a := ((m + 1 : Nat) : Int)) (Ev.step (f := fun _ => some _) (fun k => ?_) (Ev.now _)) (by rw [List.drop_of_length_le (by omega)]; simp)
    simp only [threshold_Depth.l0]; rw [if_neg (by omega), up (by omega)]
  | d + 1, i, m, hi, hm => by
    have hlt : i < ts.length := by omega
    have e : (ts.drop i) = ts[i] :: ts.drop (i + 1) := List.drop_eq_getElem_cons hlt
    have hr := rdT_mem (ts := ts) (i := (i : Int)) (by omega) (by omega)
    have hdi := hd ts[i] (List.getElem_mem hlt)
    have h2 := depth_l0 hl ih hd d (i + 1) (max m (depthT ts[i])) (by omega) (by omega)
    refine ev_val (Ev.step (f := fun k => (threshold_Depth.f k ts[i].f0 ts[i].f1 ts[i].f2).bind fun t => threshold_Depth.l0 k (mx m t) ts ts.length ((i + 1 : Nat) : Int)) (fun k => ?_) (Ev.bind (ih ts[i] (List.getElem_mem hlt)) (Ev.congr (fun k => ?_) h2))) (by rw [e, List.foldr_cons]; congr 2; omega)
    · simp only [threshold_Depth.l0]
      rw [if_pos (by omega), if_pos (by omega), if_pos (by omega), hr, up (by omega)]; rfl
    · have : mx (m : Int) (depthT ts[i] : Int) = ((max m (depthT ts[i]) : Nat) : Int) := by unfold mx; split <;> omega
      rw [this]
theorem depth_ev : ∀ {d : Nat}, d ≤ 1000 → ∀ {t : TT}, SmD d t → Ev (fun k => threshold_Depth.f k t.f0 t.f1 t.f2) (depthT t : Int)
  | 0, _, _, h => h.elim
  | d + 1, hd, ⟨a, l, ts⟩, h => by
    have h0 := depth_l0 (ts := ts) (by have := h.2.1; omega) (fun t ht => depth_ev (by omega) (h.2.2 t ht)) (fun t ht => by have := (h.2.2 t ht).depth; omega) ts.length 0 0 (by omega) (by omega)
    exact ev_val (Ev.step (fun k => by simp only [threshold_Depth.f]; rfl) h0) (by rw [depthT_eq]; simp)
theorem size_l0 {ts : List TT} (hl : ts.length ≤ 1073741824) (ih : ∀ t ∈ ts, Ev (fun k => threshold_Size.f k t.f0 t.f1 t.f2) (sizeT t : Int)) : ∀ (d i m : Nat), i + d = ts.length → m + (ts.drop i).foldr (fun x r => sizeT x + r) 0 ≤ 1073741824 →
    Ev (fun k => threshold_Size.l0 k m ts ts.length i) ((m + (ts.drop i).foldr (fun x r => sizeT x + r) 0 : Nat) : Int)
  | 0, i, m, hi, hm => by
    refine ev_val (a := (m : Int)) (Ev.step (f := fun _ => some _) (fun k => ?_) (Ev.now _)) (by rw [List.drop_of_length_le (by omega)]; simp)
    simp only [threshold_Size.l0]; rw [if_neg (by omega)]
  | d + 1, i, m, hi, hm => by
    have hlt : i < ts.length := by omega
    have e : (ts.drop i) = ts[i] :: ts.drop (i + 1) := List.drop_eq_getElem_cons hlt
    have hr := rdT_mem (ts := ts) (i := (i : Int)) (by omega) (by omega)
    rw [e, List.foldr_cons] at hm
    have h2 := size_l0 hl ih d (i + 1) (m + sizeT ts[i]) (by omega) (by omega)
    refine ev_val (Ev.step (f := fun k => (threshold_Size.f k ts[i].f0 ts[i].f1 ts[i].f2).bind fun t => threshold_Size.l0 k (wrap64 (m + t)) ts ts.length ((i + 1 : Nat) : Int)) (fun k => ?_) (Ev.bind (ih ts[i] (List.getElem_mem hlt)) (Ev.congr (fun k => ?_) h2))) (by rw [e, List.foldr_cons]; congr 1; omega)
    · simp only [threshold_Size.l0]
      rw [if_pos (by omega), if_pos (by omega), if_pos (by omega), hr, up (by omega)]; rfl
    · have : wrap64 ((m : Int) + (sizeT ts[i] : Int)) = ((m + sizeT ts[i] : Nat) : Int) := by rw [wrap_of (by omega) (by omega)]; omega
      rw [this]
theorem size_ev : ∀ {d : Nat}, d ≤ 8 → ∀ {t : TT}, SmD d t → Ev (fun k => threshold_Size.f k t.f0 t.f1 t.f2) (sizeT t : Int)
  | 0, _, _, h => h.elim
  | d + 1, hd, ⟨a, l, ts⟩, h => by
    have hs := SmD.size h
    have hp : 4 ^ (d + 1) ≤ 4 ^ 8 := Nat.pow_le_pow_right (by omega) hd
    rw [sizeT_eq] at hs
    have h0 := size_l0 (ts := ts) (by have := h.2.1; omega) (fun t ht => size_ev (by omega) (h.2.2 t ht)) ts.length 0 (l.length + ts.length) (by omega) (by rw [List.drop_zero]; omega)
    refine ev_val (Ev.step (fun k => ?_) h0) (by rw [sizeT_eq, List.drop_zero])
    have : wrap64 ((l.length : Int) + (ts.length : Int)) = ((l.length + ts.length : Nat) : Int) := by rw [wrap_of (by omega) (by omega)]; omega
    simp only [threshold_Size.f]
    rw [this]; rfl
theorem refdepth_l0 {ts : List TT} (hl : ts.length ≤ 1073741824) (ih : ∀ t ∈ ts, Ev (fun k => trustquorumref02_Depth.f k t.f0 t.f1 t.f2) (depthT t : Int)) (hd : ∀ t ∈ ts, depthT t ≤ 1000) : ∀ (d i m : Nat), i + d = ts.length → m ≤ 1000 →
    Ev (fun k => trustquorumref02_Depth.l0 k m ts ts.length i) ((max m ((ts.drop i).foldr (fun x r => max (depthT x) r) 0) + 1 : Nat) : Int)
  | 0, i, m, hi, hm => by
    refine ev_val (a := ((m + 1 : Nat) : Int)) (Ev.step (f := fun _ => some _) (fun k => ?_) (Ev.now _)) (by rw [List.drop_of_length_le (by omega)]; simp)
    simp only [trustquorumref02_Depth.l0]; rw [if_neg (by omega), up (by omega)]
  | d + 1, i, m, hi, hm => by
    have hlt : i < ts.length := by omega
    have e : (ts.drop i) = ts[i] :: ts.drop (i + 1) := List.drop_eq_getElem_cons hlt
    have hr := rdT_mem (ts := ts) (i := (i : Int)) (by omega) (by omega)
    have hdi := hd ts[i] (List.getElem_mem hlt)
    have h2 := refdepth_l0 hl ih hd d (i + 1) (max m (depthT ts[i])) (by omega) (by omega)
    refine ev_val (Ev.step (f := fun k => (trustquorumref02_Depth.f k ts[i].f0 ts[i].f1 ts[i].f2).bind fun t => trustquorumref02_Depth.l0 k (mx m t) ts ts.length ((i + 1 : Nat) : Int)) (fun k => ?_) (Ev.bind (ih ts[i] (List.getElem_mem hlt)) (Ev.congr (fun k => ?_) h2))) (by rw [e, List.foldr_cons]; congr 2; omega)
    · simp only [trustquorumref02_Depth.l0]
      rw [if_pos (by omega), if_pos (by omega), if_pos (by omega), hr, up (by omega)]; rfl
    · have : mx (m : Int) (depthT ts[i] : Int) = ((max m (depthT ts[i]) : Nat) : Int) := by unfold mx; split <;> omega
      rw [this]
theorem refdepth_ev : ∀ {d : Nat}, d ≤ 1000 → ∀ {t : TT}, SmD d t → Ev (fun k => trustquorumref02_Depth.f k t.f0 t.f1 t.f2) (depthT t : Int)
  | 0, _, _, h => h.elim
  | d + 1, hd, ⟨a, l, ts⟩, h => by
    have h0 := refdepth_l0 (ts := ts) (by have := h.2.1; omega) (fun t ht => refdepth_ev (by omega) (h.2.2 t ht)) (fun t ht => by have := (h.2.2 t ht).depth; omega) ts.length 0 0 (by omega) (by omega)
    exact ev_val (Ev.step (fun k => by simp only [trustquorumref02_Depth.f]; rfl) h0) (by rw [depthT_eq]; simp)
theorem refsize_l0 {ts : List TT} (hl : ts.length ≤ 1073741824) (ih : ∀ t ∈ ts, Ev (fun k => trustquorumref02_Size.f k t.f0 t.f1 t.f2) (sizeT t : Int)) : ∀ (d i m : Nat), i + d = ts.length → m + (ts.drop i).foldr (fun x r => sizeT x + r) 0 ≤ 1073741824 →
    Ev (fun k => trustquorumref02_Size.l0 k m ts ts.length i) ((m + (ts.drop i).foldr (fun x r => sizeT x + r) 0 : Nat) : Int)
  | 0, i, m, hi, hm => by
    refine ev_val (a := (m : Int)) (Ev.step (f := fun _ => some _) (fun k => ?_) (Ev.now _)) (by rw [List.drop_of_length_le (by omega)]; simp)
    simp only [trustquorumref02_Size.l0]; rw [if_neg (by omega)]
  | d + 1, i, m, hi, hm => by
    have hlt : i < ts.length := by omega
    have e : (ts.drop i) = ts[i] :: ts.drop (i + 1) := List.drop_eq_getElem_cons hlt
    have hr := rdT_mem (ts := ts) (i := (i : Int)) (by omega) (by omega)
    rw [e, List.foldr_cons] at hm
    have h2 := refsize_l0 hl ih d (i + 1) (m + sizeT ts[i]) (by omega) (by omega)
    refine ev_val (Ev.step (f := fun k => (trustquorumref02_Size.f k ts[i].f0 ts[i].f1 ts[i].f2).bind fun t => trustquorumref02_Size.l0 k (wrap64 (m + t)) ts ts.length ((i + 1 : Nat) : Int)) (fun k => ?_) (Ev.bind (ih ts[i] (List.getElem_mem hlt)) (Ev.congr (fun k => ?_) h2))) (by rw [e, List.foldr_cons]; congr 1; omega)
    · simp only [trustquorumref02_Size.l0]
      rw [if_pos (by omega), if_pos (by omega), if_pos (by omega), hr, up (by omega)]; rfl
    · have : wrap64 ((m : Int) + (sizeT ts[i] : Int)) = ((m + sizeT ts[i] : Nat) : Int) := by rw [wrap_of (by omega) (by omega)]; omega
      rw [this]
theorem refsize_ev : ∀ {d : Nat}, d ≤ 8 → ∀ {t : TT}, SmD d t → Ev (fun k => trustquorumref02_Size.f k t.f0 t.f1 t.f2) (sizeT t : Int)
  | 0, _, _, h => h.elim
  | d + 1, hd, ⟨a, l, ts⟩, h => by
    have hs := SmD.size h
    have hp : 4 ^ (d + 1) ≤ 4 ^ 8 := Nat.pow_le_pow_right (by omega) hd
    rw [sizeT_eq] at hs
    have h0 := refsize_l0 (ts := ts) (by have := h.2.1; omega) (fun t ht => refsize_ev (by omega) (h.2.2 t ht)) ts.length 0 (l.length + ts.length) (by omega) (by rw [List.drop_zero]; omega)
    refine ev_val (Ev.step (fun k => ?_) h0) (by rw [sizeT_eq, List.drop_zero])
    have : wrap64 ((l.length : Int) + (ts.length : Int)) = ((l.length + ts.length : Nat) : Int) := by rw [wrap_of (by omega) (by omega)]; omega
    simp only [trustquorumref02_Size.f]
    rw [this]; rfl
/-! ### The levels -/
def firstT (f : TT → Int) (ts : List TT) : Int := ts.foldr (fun x r => if f x = 0 then r else f x) 0
def chkT : TT → Int
  | ⟨a, l, ts⟩ => if a < 1 ∨ a > ((l.length + ts.length : Nat) : Int) then 4 else if (l.any fun x => !isNode x) = true then 5 else if (ofV 0 l).2 = 0 then ts.attach.foldr (fun x r => if chkT x.1 = 0 then r else chkT x.1) 0 else (ofV 0 l).2
termination_by t => SizeOf.sizeOf t
decreasing_by
  all_goals
    have := List.sizeOf_lt_of_mem x.2
    simp_wf; omega
theorem chkT_eq (a : Int) (l : List Int) (ts : List TT) : chkT ⟨a, l, ts⟩ = if a < 1 ∨ a > ((l.length + ts.length : Nat) : Int) then 4 else if (l.any fun x => !isNode x) = true then 5 else if (ofV 0 l).2 = 0 then firstT chkT ts else (ofV 0 l).2 := by
  have h : ts.attach.foldr (fun x r => if chkT x.1 = 0 then r else chkT x.1) 0 = firstT chkT ts := List.foldr_attach (l := ts) (f := fun x r => if chkT x = 0 then r else chkT x) (b := 0)
  rw [chkT, h]
theorem firstT_zero {f : TT → Int} {ts : List TT} (h : firstT f ts = 0) : ∀ t ∈ ts, f t = 0 := by
  induction ts with
  | nil => intro t ht; cases ht
  | cons t ts ih =>
    unfold firstT at h
    rw [List.foldr_cons] at h
    by_cases c : f t = 0
    · rw [if_pos c] at h
      intro u hu
      rcases List.mem_cons.1 hu with rfl | hu
      · exact c
      · exact ih h u hu
    · rw [if_neg c] at h; exact absurd h c
theorem kids_l {ts : List TT} (hl : ts.length ≤ 1073741824) (ih : ∀ t ∈ ts, Ev (fun k => threshold_level.f k t.f0 t.f1 t.f2) (chkT t)) : ∀ (d i : Nat), i + d = ts.length →
    Ev (fun k => threshold_level.l0 k ts ts.length i) (firstT chkT (ts.drop i))
  | 0, i, hi => by
    refine ev_val (a := 0) (Ev.step (f := fun _ => some _) (fun k => ?_) (Ev.now _)) (by rw [List.drop_of_length_le (by omega)]; rfl)
    simp only [threshold_level.l0]; rw [if_neg (by omega)]
  | d + 1, i, hi => by
    have hlt : i < ts.length := by omega
    have e : (ts.drop i) = ts[i] :: ts.drop (i + 1) := List.drop_eq_getElem_cons hlt
    have hr := rdT_mem (ts := ts) (i := (i : Int)) (by omega) (by omega)
    have h2 := kids_l hl ih d (i + 1) (by omega)
    refine Ev.step (f := fun k => (threshold_level.f k ts[i].f0 ts[i].f1 ts[i].f2).bind fun t => if t = 0 then threshold_level.l0 k ts ts.length ((i + 1 : Nat) : Int) else some t) (fun k => ?_) (Ev.bind (ih ts[i] (List.getElem_mem hlt)) ?_)
    · simp only [threshold_level.l0]
      rw [if_pos (by omega), if_pos (by omega), if_pos (by omega), hr, up (by omega)]; rfl
    · by_cases c : chkT ts[i] = 0
      · exact ev_val (Ev.congr (fun k => by rw [if_pos c]) h2) (by rw [e, firstT, firstT, List.foldr_cons, if_pos c])
      · exact ev_val (Ev.congr (fun k => by rw [if_neg c]) (Ev.now (chkT ts[i]))) (by rw [e, firstT, List.foldr_cons, if_neg c])
theorem refkids_l {ts : List TT} (hl : ts.length ≤ 1073741824) (ih : ∀ t ∈ ts, Ev (fun k => trustquorumref02_check.f k t.f0 t.f1 t.f2) (chkT t)) : ∀ (d i : Nat), i + d = ts.length →
    Ev (fun k => trustquorumref02_check.l1 k ts ts.length i) (firstT chkT (ts.drop i))
  | 0, i, hi => by
    refine ev_val (a := 0) (Ev.step (f := fun _ => some _) (fun k => ?_) (Ev.now _)) (by rw [List.drop_of_length_le (by omega)]; rfl)
    simp only [trustquorumref02_check.l1]; rw [if_neg (by omega)]
  | d + 1, i, hi => by
    have hlt : i < ts.length := by omega
    have e : (ts.drop i) = ts[i] :: ts.drop (i + 1) := List.drop_eq_getElem_cons hlt
    have hr := rdT_mem (ts := ts) (i := (i : Int)) (by omega) (by omega)
    have h2 := refkids_l hl ih d (i + 1) (by omega)
    refine Ev.step (f := fun k => (trustquorumref02_check.f k ts[i].f0 ts[i].f1 ts[i].f2).bind fun t => if t = 0 then trustquorumref02_check.l1 k ts ts.length ((i + 1 : Nat) : Int) else some t) (fun k => ?_) (Ev.bind (ih ts[i] (List.getElem_mem hlt)) ?_)
    · simp only [trustquorumref02_check.l1]
      rw [if_pos (by omega), if_pos (by omega), if_pos (by omega), hr, up (by omega)]; rfl
    · by_cases c : chkT ts[i] = 0
      · exact ev_val (Ev.congr (fun k => by rw [if_pos c]) h2) (by rw [e, firstT, firstT, List.foldr_cons, if_pos c])
      · exact ev_val (Ev.congr (fun k => by rw [if_neg c]) (Ev.now (chkT ts[i]))) (by rw [e, firstT, List.foldr_cons, if_neg c])
theorem refnodes_l (a : Int) (l : List Int) (ts : List TT) (hl : l.length ≤ 1073741824) {r : Int} (h : Ev (fun k => (trustquorumref01_Of.f k l).bind fun b => if b.2 = 0 then trustquorumref02_check.l1 k ts ts.length 0 else some b.2) r) : ∀ (d i : Nat), i + d = l.length →
    Ev (fun k => trustquorumref02_check.l0 k l l.length i a l ts) (if ((l.drop i).any fun x => !isNode x) = true then 5 else r)
  | 0, i, hi => by
    refine ev_val (Ev.step (fun k => ?_) h) (by rw [List.drop_of_length_le (by omega)]; rfl)
    simp only [trustquorumref02_check.l0]; rw [if_neg (by omega)]
  | d + 1, i, hi => by
    have hlt : i < l.length := by omega
    have e : (l.drop i) = l[i] :: l.drop (i + 1) := List.drop_eq_getElem_cons hlt
    have hr := rd_get hlt
    have h2 := refnodes_l a l ts hl h d (i + 1) (by omega)
    rw [e, List.any_cons]
    cases hx : isNode l[i] with
    | false =>
      have hx' : ¬ (0 ≤ l[i] ∧ l[i] < 10) := by simpa [isNode] using hx
      refine ev_val (a := 5) (Ev.step (f := fun _ => some 5) (fun k => ?_) (Ev.now _)) (by simp)
      simp only [trustquorumref02_check.l0]
      rw [if_pos (by omega), if_pos (by omega), if_pos (by omega), hr]
      by_cases c : l[i] < 0
      · rw [if_pos c]
      · rw [if_neg c, if_pos (by omega)]
    | true =>
      obtain ⟨m, em, hm⟩ := isNode_nat hx
      refine ev_val (Ev.step (fun k => ?_) h2) (by rfl)
      simp only [trustquorumref02_check.l0]
      rw [if_pos (by omega), if_pos (by omega), if_pos (by omega), hr, em, if_neg (by omega), if_neg (by omega), up (by omega)]
theorem refchk_ev {t : TT} (ht : Sm t) : Ev (fun k => trustquorumref02_check.f k t.f0 t.f1 t.f2) (chkT t) := by
  induction ht with
  | mk a l ts h1 h2 h3 ih =>
    rw [chkT_eq]
    have w : wrap64 ((l.length : Int) + (ts.length : Int)) = ((l.length + ts.length : Nat) : Int) := by rw [wrap_of (by omega) (by omega)]; omega
    by_cases c : a < 1 ∨ a > ((l.length + ts.length : Nat) : Int)
    · rw [if_pos c]
      refine Ev.step (f := fun k => trustquorumref02_check.j0 k true a l ts) (fun k => ?_) (Ev.step (f := fun _ => some 4) (fun k => by simp only [trustquorumref02_check.j0]; rfl) (Ev.now _))
      simp only [trustquorumref02_check.f]
      by_cases c1 : a < 1
      · rw [if_pos c1]
      · rw [if_neg c1, w, decide_eq_true (by omega)]
    · rw [if_neg c]
      have hk := refkids_l h2 ih ts.length 0 (by omega)
      have h0 := refnodes_l a l ts h1 (r := if (ofV 0 l).2 = 0 then firstT chkT ts else (ofV 0 l).2) (Ev.bind (refof_ev h1) (by
        by_cases z : (ofV 0 l).2 = 0
        · simp only [if_pos z]; exact hk
        · simp only [if_neg z]; exact Ev.now _)) l.length 0 (by omega)
      refine Ev.step (f := fun k => trustquorumref02_check.j0 k false a l ts) (fun k => ?_) (Ev.step (fun k => ?_) h0)
      · simp only [trustquorumref02_check.f]
        rw [if_neg (by omega), w, decide_eq_false (by omega)]
      · simp only [trustquorumref02_check.j0]; rfl
theorem chk_ev {t : TT} (ht : Sm t) : Ev (fun k => threshold_level.f k t.f0 t.f1 t.f2) (chkT t) := by
  induction ht with
  | mk a l ts h1 h2 h3 ih =>
    rw [chkT_eq]
    have w : wrap64 ((l.length : Int) + (ts.length : Int)) = ((l.length + ts.length : Nat) : Int) := by rw [wrap_of (by omega) (by omega)]; omega
    by_cases c : a < 1 ∨ a > ((l.length + ts.length : Nat) : Int)
    · rw [if_pos c]
      refine Ev.step (f := fun k => threshold_level.j0 k true a l ts) (fun k => ?_) (Ev.step (f := fun _ => some 4) (fun k => by simp only [threshold_level.j0]; rfl) (Ev.now _))
      simp only [threshold_level.f]
      by_cases c1 : a < 1
      · rw [if_pos c1]
      · rw [if_neg c1, w, decide_eq_true (by omega)]
    · rw [if_neg c]
      have hk := kids_l h2 ih ts.length 0 (by omega)
      refine Ev.step (f := fun k => threshold_level.j0 k false a l ts) (fun k => ?_) ?_
      · simp only [threshold_level.f]
        rw [if_neg (by omega), w, decide_eq_false (by omega)]
      · cases hn : (l.any fun x => !isNode x) with
        | true =>
          refine Ev.step (f := fun _ => some 5) (fun k => ?_) (Ev.now _)
          simp only [threshold_level.j0, threshold_level_1.f]
          rw [hn]; rfl
        | false =>
          refine Ev.step (f := fun k => (nodeset_Of.f k l).bind fun b => if b.2 = 0 then threshold_level.l0 k ts ts.length 0 else some b.2) (fun k => ?_) (Ev.bind (of_ev h1) ?_)
          · simp only [threshold_level.j0, threshold_level_1.f]
            rw [hn]; rfl
          · by_cases z : (ofV 0 l).2 = 0
            · simp only [if_pos z]; exact hk
            · simp only [if_neg z]; exact Ev.now _
def validT (t : TT) : Int := if depthT t > 4 then 3 else if sizeT t > 200 then 3 else chkT t
theorem valid_ev {d : Nat} (hd : d ≤ 8) {t : TT} (h : SmD d t) : Ev (fun k => threshold_Valid.f k t.f0 t.f1 t.f2) (validT t) := by
  have h1 := depth_ev (by omega) h
  have h2 := size_ev hd h
  have h3 := chk_ev h.sm
  unfold validT
  refine Ev.bind h1 ?_
  by_cases c : depthT t > 4
  · rw [if_pos c]; exact Ev.congr (fun k => if_pos (by omega)) (Ev.now _)
  · rw [if_neg c]
    refine Ev.congr (fun k => if_neg (by omega)) (Ev.bind h2 ?_)
    by_cases c2 : sizeT t > 200
    · rw [if_pos c2]; exact Ev.congr (fun k => if_pos (by omega)) (Ev.now _)
    · rw [if_neg c2]
      exact Ev.congr (fun k => if_neg (by omega)) (Ev.bind h3 (Ev.now _))
theorem refvalid_ev {d : Nat} (hd : d ≤ 8) {t : TT} (h : SmD d t) : Ev (fun k => trustquorumref02_Valid.f k t.f0 t.f1 t.f2) (validT t) := by
  have h1 := refdepth_ev (by omega) h
  have h2 := refsize_ev hd h
  have h3 := refchk_ev h.sm
  unfold validT
  refine Ev.bind h1 ?_
  by_cases c : depthT t > 4
  · rw [if_pos c]; exact Ev.congr (fun k => if_pos (by omega)) (Ev.now _)
  · rw [if_neg c]
    refine Ev.congr (fun k => if_neg (by omega)) (Ev.bind h2 ?_)
    by_cases c2 : sizeT t > 200
    · rw [if_pos c2]; exact Ev.congr (fun k => if_pos (by omega)) (Ev.now _)
    · rw [if_neg c2]
      exact Ev.congr (fun k => if_neg (by omega)) (Ev.bind h3 (Ev.now _))
/-! ### All nodes satisfy a valid trust -/
theorem valid_chk {t : TT} (h : validT t = 0) : chkT t = 0 ∧ depthT t ≤ 4 ∧ sizeT t ≤ 200 := by
  unfold validT at h
  split at h
  · exact absurd h (by decide)
  · split at h
    · exact absurd h (by decide)
    · exact ⟨h, by omega, by omega⟩
theorem chk_parts {a : Int} {l : List Int} {ts : List TT} (h : chkT ⟨a, l, ts⟩ = 0) : 1 ≤ a ∧ a ≤ ((l.length + ts.length : Nat) : Int) ∧ (∀ x ∈ l, isNode x = true) ∧ (ofV 0 l).2 = 0 ∧ ∀ t ∈ ts, chkT t = 0 := by
  rw [chkT_eq] at h
  split at h
  · exact absurd h (by decide)
  · split at h
    · exact absurd h (by decide)
    · rename_i c1 c2
      split at h
      · rename_i c3
        refine ⟨by omega, by omega, fun x hx => ?_, c3, firstT_zero h⟩
        cases hn : isNode x with
        | true => rfl
        | false => exact absurd (List.any_eq_true.2 ⟨x, hx, by rw [hn]; rfl⟩) c2
      · rename_i c3; exact absurd h c3
theorem chk_sat {t : TT} (ht : Sm t) (h : chkT t = 0) : satT t 1023 = true := by
  induction ht with
  | mk a l ts h1 h2 h3 ih =>
    obtain ⟨c1, c2, c3, c4, c5⟩ := chk_parts h
    have e1 : l.filter (hasI 1023) = l := List.filter_eq_self.2 fun x hx => by
      obtain ⟨m, rfl, hm⟩ := isNode_nat (c3 x hx)
      have := has_nat (n := 1023) (m := m) (by omega) hm
      exact this.trans ((by decide : ∀ m : Fin 10, Nat.testBit 1023 m.1 = true) ⟨m, hm⟩)
    have e2 : ts.filter (fun x => satT x 1023) = ts := List.filter_eq_self.2 fun x hx => ih x hx (c5 x hx)
    rw [satT_eq, e1, e2, decide_eq_true (by omega)]; rfl
/-- A set that holds more satisfies no less. -/
def subN (a b : Int) : Prop := ∀ i, a.toNat.testBit i = true → b.toNat.testBit i = true
theorem has_mono {s u : Int} (hu : isSet u = true) (h : subN s u) (x : Int) (hx : hasI s x = true) : hasI u x = true := by
  simp only [hasI, Bool.and_eq_true] at hx ⊢
  exact ⟨hu, hx.2.1, hx.2.2.1, h _ hx.2.2.2⟩
theorem filter_mono {α : Type} {p q : α → Bool} {l : List α} (h : ∀ x ∈ l, p x = true → q x = true) : (l.filter p).length ≤ (l.filter q).length := by
  rw [← List.countP_eq_length_filter, ← List.countP_eq_length_filter]
  exact List.countP_mono_left h
theorem sat_mono {s u : Int} (hu : isSet u = true) (hsu : subN s u) {t : TT} (ht : Sm t) (h : satT t s = true) : satT t u = true := by
  induction ht with
  | mk a l ts h1 h2 h3 ih =>
    rw [satT_eq, Bool.and_eq_true, decide_eq_true_eq] at h ⊢
    have e1 := filter_mono (l := l) fun x _ => has_mono hu hsu x
    have e2 := filter_mono (l := ts) (p := fun x => satT x s) (q := fun x => satT x u) fun x hx hs => ih x hx hs
    exact ⟨hu, by omega⟩
end Go.Proofs.Ytfkpimjiaijmgaa.Q
