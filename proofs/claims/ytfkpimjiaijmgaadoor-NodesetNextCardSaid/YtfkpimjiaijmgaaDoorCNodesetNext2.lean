/- NodesetNext: the texts of the claim, put together (part 3 of 3). The law is proved in the last one: it takes no condition beyond the statement's own. -/
import Derived.Test.YtfkpimjiaijmgaaDoorRows
import Derived.Test.YtfkpimjiaijmgaaDoorCards
import Derived.Test.YtfkpimjiaijmgaaDoorTie
import Derived.SevenTiedAt
import Derived.LaidMore
import Derived.LaidHandle
import Derived.LaidLaws
import Derived.Stop.Joined
import Derived.WalkKit
import Derived.ProofKit
import Derived.OpenShut
import Derived.ShutString
import Derived.ChangeOld
import Derived.Below
import Derived.SizedLaws
import Derived.Test.YtfkpimjiaijmgaaDoorCNodesetNext1
section
namespace Go.Proofs.YtfkpimjiaijmgaaDoor.Q
open Go.RowKit Go.Proofs.YtfkpimjiaijmgaaDoor.G Go.Proofs.YtfkpimjiaijmgaaDoorW.PrintWords Go.Proofs.YtfkpimjiaijmgaaDoorW.PrintLast Go.Proofs.YtfkpimjiaijmgaaDoorW.PrintMore Go.Proofs.YtfkpimjiaijmgaaDoorV
set_option linter.unusedVariables false
theorem compare_eq (k : Nat) (hk : 3 ≤ k) (a b : Int) : nodeset_Compare.f k a b = some (cmpI a b) := by
  unfold nodeset_Compare.f
  have h := at_rounds (fun k => cmp_Or_int.mono [sgn (rankI a) (rankI b), sgn a b] k) hk (or_eq (sgn (rankI a) (rankI b)) (sgn a b))
  simp only [rank_eq, cmp_eq, Option.bind_some, h]
  rfl
theorem compare_ev (a b : Int) : Ev (fun k => nodeset_Compare.f k a b) (cmpI a b) := ⟨3, fun k hk => compare_eq k hk a b⟩
theorem refcompare_ev {a b : Int} (ha : isSet a = true) (hb : isSet b = true) : Ev (fun k => trustquorumref01_Compare.f k a b) (cmpI a b) :=
  Ev.of (fun k => trustquorumref01_Compare.mono a b k) (rcmp_eq ha hb)
theorem next_ev {n s : Nat} (hn : n ≤ 10) (hs : s < 2 ^ n) (hp : popc s ≤ n) : Ev (fun k => nodeset_Next.f k s n) (match nextN n s with | some u => ((u : Int), true) | none => (0, false)) := ⟨1026, fun k hk => next_eq k n hk hn s hs hp⟩
/-- Are these the least sets of a list? -/
def leastP (l : List Int) (x : Int) : Bool := l.contains x && (isSet x && l.all fun t => !isSet t || (!subI t x || t == x))
def checkL (l m : List Int) : Bool := decide (m.Pairwise before) && (m.all (leastP l) && l.all fun x => !leastP l x || m.contains x)
theorem leastP_iff {l : List Int} {x : Int} : leastP l x = true ↔ x ∈ leastL l := by
  rw [mem_leastL]
  unfold leastP
  simp only [Bool.and_eq_true, List.all_eq_true, List.contains_iff_mem, Bool.or_eq_true, Bool.not_eq_true', beq_iff_eq]
  constructor
  · rintro ⟨h1, h2, h3⟩
    refine ⟨h1, h2, fun t ht hs hu => ?_⟩
    rcases h3 t ht with h | h | h
    · rw [hs] at h; cases h
    · rw [hu] at h; cases h
    · exact h
  · rintro ⟨h1, h2, h3⟩
    refine ⟨h1, h2, fun t ht => ?_⟩
    cases hs : isSet t with
    | false => exact .inl rfl
    | true =>
      cases hu : subI t x with
      | false => exact .inr (.inl rfl)
      | true => exact .inr (.inr (h3 t ht hs hu))
theorem checkL_eq {l m : List Int} (h : checkL l m = true) : leastL l = m := by
  unfold checkL at h
  simp only [Bool.and_eq_true, decide_eq_true_eq, List.all_eq_true] at h
  refine leastL_eq h.1 fun x => ?_
  constructor
  · intro hx
    have := h.2.2 x (mem_leastL.1 hx).1
    rw [leastP_iff.2 hx] at this
    simpa using this
  · intro hx
    exact leastP_iff.1 (h.2.1 x hx)
theorem meeting_ex : nodeset_Meeting.f [3, 6] 3 = some ([2, 5], 0) := by
  have e1 : leastL [3, 6] = [3, 6] := checkL_eq (by decide +kernel)
  have e2 : meetG [3, 6] (2 ^ (3 : Int).toNat) 0 [] = [2, 3, 5, 6, 7] := by decide +kernel
  have e3 : leastL [2, 3, 5, 6, 7] = [2, 5] := checkL_eq (by decide +kernel)
  unfold nodeset_Meeting.f
  rw [if_neg (by decide), if_neg (by decide), if_neg (by decide +kernel), if_neg (by decide), e1, e2, e3]
theorem text_ex : nodeset_Text.f 30 37 = some ⟨#[123, 48, 32, 50, 32, 53, 125]⟩ := by decide +kernel
theorem ints_ex : trustquorummake_Ints.f 5 [2, 5] [2, 5] = some true := by decide +kernel
theorem awake_ev : Ev (fun k => trustquorumlaw01_awake.f k) true := by
  have h1 := next_ev (n := 6) (s := 37) (by omega) (by omega) (by decide)
  have e1 : nextN 6 37 = some 38 := by decide +kernel
  rw [e1] at h1
  have h2 : Ev (fun k => nodeset_Text.f k 37) ⟨#[123, 48, 32, 50, 32, 53, 125]⟩ := Ev.of (fun k => nodeset_Text.mono 37 k) text_ex
  have h3 : Ev (fun k => trustquorummake_Ints.f k [2, 5] [2, 5]) true := Ev.of (fun k => trustquorummake_Ints.mono [2, 5] [2, 5] k) ints_ex
  refine Ev.congr (fun k => by unfold trustquorumlaw01_awake.f; rfl) (Ev.bind h1 ?_)
  refine Ev.congr (fun k => by rw [meeting_ex]; simp only [Option.bind_some, if_true]; rw [if_pos (show ((38 : Nat) : Int) = 38 from rfl)]) (Ev.bind h2 ?_)
  refine Ev.congr (fun k => by rw [if_pos (by decide +kernel)]) (Ev.bind h3 (Ev.now _))
theorem set_nat {n : Nat} (h : n < 1024) : isSet (n : Int) = true := by simp [isSet]; omega
theorem upi {i : Nat} (h : i ≤ 4611686018427387904) : wrap64 ((i : Int) + 1) = ((i + 1 : Nat) : Int) := by rw [wrap_of (by omega) (by omega)]; omega
theorem shl_pow {n : Nat} (h : n ≤ 10) : shl .i64 1 (n : Int) = ((2 ^ n : Nat) : Int) := (by decide +kernel : ∀ m : Fin 11, shl .i64 1 (m.1 : Int) = ((2 ^ m.1 : Nat) : Int)) ⟨n, by omega⟩
theorem sgn_lt {a b : Int} (h : a < b) : sgn a b = -1 := by unfold sgn; rw [if_pos h]
theorem sgn_eq (a : Int) : sgn a a = 0 := by unfold sgn; rw [if_neg (by omega), if_neg (by omega)]
theorem cmp_before {a b : Int} (h : before a b) : cmpI a b = -1 := by
  unfold cmpI
  rcases h with h | ⟨h, h'⟩
  · rw [sgn_lt h, if_neg (by decide)]
  · rw [h, sgn_eq, if_pos rfl, sgn_lt h']
theorem before_key {a b : Nat} (ha : a < 1024) (hb : b < 1024) (h : key a < key b) : before (a : Int) (b : Int) := by
  unfold before rankI
  rw [set_nat ha, set_nat hb, if_pos rfl, if_pos rfl, Int.toNat_natCast, Int.toNat_natCast]
  unfold key at h
  omega
end Go.Proofs.YtfkpimjiaijmgaaDoor.Q
end
section
namespace Go.Proofs.YtfkpimjiaijmgaaDoor.Q
open Go.RowKit Go.Proofs.YtfkpimjiaijmgaaDoor.G Go.Proofs.YtfkpimjiaijmgaaDoorW.PrintWords Go.Proofs.YtfkpimjiaijmgaaDoorW.PrintLast Go.Proofs.YtfkpimjiaijmgaaDoorW.PrintMore Go.Proofs.YtfkpimjiaijmgaaDoorV
set_option linter.unusedVariables false
def allN (n : Nat) : List Nat := (List.range (n + 1)).flatMap fun c => (List.range (2 ^ n)).filter fun x => popc x = c
def chainedN (n : Nat) : List Nat → Bool
  | [] => true
  | [a] => nextN n a == none && (a == 2 ^ n - 1 && decide (popc a ≤ n))
  | a :: b :: l => nextN n a == some b && (decide (key a < key b) && (decide (a < 2 ^ n) && (decide (b < 2 ^ n) && (decide (popc a ≤ n) && chainedN n (b :: l)))))
set_option maxRecDepth 100000 in
theorem chainN_all : ∀ n : Fin 11, chainedN n.1 (allN n.1) = true ∧ (allN n.1).head? = some 0 ∧ (allN n.1).length = 2 ^ n.1 := by decide +kernel
theorem nn_l0 {n : Nat} (hn : n ≤ 10) : ∀ (l : List Nat) (a i : Nat), chainedN n (a :: l) = true → i + l.length = 2 ^ n → Ev (fun k => trustquorumlaw01_NodesetNext.l0 k n a i) true
  | [], a, i, h, hi => by
    have hp := pow_le_1024 n hn
    have hp1 : 1 ≤ 2 ^ n := Nat.one_le_two_pow
    simp only [chainedN, Bool.and_eq_true, beq_iff_eq, decide_eq_true_eq] at h
    obtain ⟨e, e2, e3⟩ := h
    have hx := next_ev hn (s := a) (by omega) e3
    rw [e] at hx
    simp only [List.length_nil, Nat.add_zero] at hi
    refine Ev.step (f := fun k => (nodeset_Next.f k a n).bind fun b => if b.2 = true then some false else if (a : Int) = wrap64 (((2 ^ n : Nat) : Int) - 1) then (trustquorumlaw01_awake.f k).bind fun t => some t else some false) (fun k => ?_) (Ev.bind hx ?_)
    · simp only [trustquorumlaw01_NodesetNext.l0]
      rw [if_pos (by omega), shl_pow hn, if_neg (by omega)]
    · refine Ev.congr (fun k => ?_) (Ev.bind awake_ev (Ev.now _))
      rw [if_neg (by simp), wrap_of (by omega) (by omega), if_pos (by omega)]
  | b :: l, a, i, h, hi => by
    have hp := pow_le_1024 n hn
    simp only [chainedN, Bool.and_eq_true, beq_iff_eq, decide_eq_true_eq] at h
    obtain ⟨e, hk, ha, hb, e3, hl⟩ := h
    have hx := next_ev hn (s := a) ha e3
    rw [e] at hx
    simp only [List.length_cons] at hi
    have ih := nn_l0 hn l b (i + 1) hl (by omega)
    have hbf := cmp_before (before_key (a := a) (b := b) (by omega) (by omega) hk)
    have hc := compare_ev (a : Int) (b : Int)
    have hr := refcompare_ev (set_nat (n := a) (by omega)) (set_nat (n := b) (by omega))
    rw [hbf] at hc hr
    refine Ev.step (f := fun k => (nodeset_Next.f k a n).bind fun t => if t.2 = true then (if t.1 < 0 then some false else if t.1 ≥ ((2 ^ n : Nat) : Int) then some false else (nodeset_Compare.f k a t.1).bind fun c => if c = -1 then (trustquorumref01_Compare.f k a t.1).bind fun d => if d = -1 then trustquorumlaw01_NodesetNext.l0 k n t.1 (wrap64 ((i : Int) + 1)) else some false else some false) else some false) (fun k => ?_) (Ev.bind hx ?_)
    · simp only [trustquorumlaw01_NodesetNext.l0]
      rw [if_pos (by omega), shl_pow hn, if_pos (by omega)]
    · refine Ev.congr (f := fun k => (nodeset_Compare.f k a b).bind fun c => if c = -1 then (trustquorumref01_Compare.f k a b).bind fun d => if d = -1 then trustquorumlaw01_NodesetNext.l0 k n b ((i + 1 : Nat) : Int) else some false else some false) (fun k => ?_) (Ev.bind hc (Ev.congr (fun k => if_pos rfl) (Ev.bind hr (Ev.congr (fun k => if_pos rfl) ih))))
      simp only [if_true]
      rw [if_neg (by omega), if_neg (by omega), upi (by omega)]
theorem nodesetNext_true : trustquorumlaw01_NodesetNext.Pure := by
  intro a0 h
  have h' : 0 ≤ a0 ∧ a0 ≤ 255 := by simpa [Go.Lit.wf, IntKind.min, IntKind.max, IntKind.signed, IntKind.bits] using h
  have e : ∃ n : Nat, Int.tmod (wrap64 a0) 11 = (n : Int) ∧ n ≤ 10 := by
    rw [wrap_of (by omega) (by omega)]
    have t1 := Int.tmod_lt_of_pos a0 (show (0 : Int) < 11 by omega)
    have t2 := Int.tmod_nonneg 11 (show 0 ≤ a0 by omega)
    exact ⟨(Int.tmod a0 11).toNat, by omega, by omega⟩
  obtain ⟨n, en, hn⟩ := e
  obtain ⟨h1, h2, h3⟩ := chainN_all ⟨n, by omega⟩
  simp only at h1 h2 h3
  cases hl : allN n with
  | nil => rw [hl] at h2; cases h2
  | cons a l =>
    rw [hl] at h1 h2 h3
    cases h2
    have := nn_l0 hn l 0 1 h1 (by simp only [List.length_cons] at h3; omega)
    refine Ev.rounds (Ev.congr (fun k => ?_) this)
    unfold trustquorumlaw01_NodesetNext.f
    rw [en]; rfl
end Go.Proofs.YtfkpimjiaijmgaaDoor.Q
end
section
namespace Go.Proofs.YtfkpimjiaijmgaaDoor.Pure
open Go.RowKit Go.Proofs.YtfkpimjiaijmgaaDoor.G Go.Proofs.YtfkpimjiaijmgaaDoorW.PrintWords Go.Proofs.YtfkpimjiaijmgaaDoorW.PrintLast
/-- YOURS: ∀ (a0 : Int), (Lit.int .u8 a0).wf = true → ∃ k, trustquorumlaw01_NodesetNext.f k a0 = some true
What it reaches (each with k first where it has rounds; `.mono`: more rounds tell the same; `.l0`, ..: its loops, with `.mono_l`): nodeset_below.f, nodeset_Valid.f, bits_OnesCount64.f, bits_OnesCount.f, nodeset_Size.f, nodeset_Next.f, cmp_Or_int.f, cmp_isNaN_int.f, cmp_Compare_int.f, nodeset_rank.f, nodeset_Compare.f, trustquorumref01_Valid.f, trustquorumref01_Size.f, trustquorumref01_Compare.f, nodeset_Least.f, nodeset_Meeting.f, trustquorummake_Ints.f, nodeset_Has.f, nodeset_Nodes.f, strconv_Itoa.f, strings_Join.f, nodeset_Text.f, trustquorumlaw01_awake.f, trustquorumlaw01_NodesetNext.f -/
theorem NodesetNext : trustquorumlaw01_NodesetNext.Pure := Q.nodesetNext_true
end Go.Proofs.YtfkpimjiaijmgaaDoor.Pure
end
section
namespace Go.Proofs.YtfkpimjiaijmgaaDoor.nodesetNext
open Go.ChangeShapes Go.WideShapes Go.ChangeAt Go.RowKit
open Go.ChangeMaps (open_string shut_string)
set_option linter.unusedVariables false
theorem own : ownKnob Tryd.prog.godebug = none := by kernel_rfl
/-- The door's own heap meets the condition: three closed facts. -/
theorem door_met (os : Os) (args : Array Value) : laidMetH Tryd.prog Rows.nodesetNextRow.laid ((World.doorLaid Tryd.prog 400 os).forCall (fun _ _ => 0) ⟨#[], args, []⟩).memory :=
  laidMetH_of_parts3 (fuel := 8) (laidMet_of_run' 8 (by kernel_rfl) (by kernel_rfl)) (by kernel_rfl) (by kernel_rfl)
set_option maxRecDepth 100000 in
theorem lifted (os : Os) (started : os.Started) (H : Type) (enc : TypeId × Value → H) :
    ReturnsInHanded {} Tryd.checked os 3 .any (fun w args => (Rows.nodesetNextSpec.pre enc Tryd.prog Tryd.f3 [] false w args ∧ laidMetH Tryd.prog Rows.nodesetNextRow.laid w) ∧ sizedMet enc Tryd.prog Tryd.f3 (OpenSpec.ofChange Rows.nodesetNextSpec) false w args) (Rows.nodesetNextSpec.post enc Tryd.prog Tryd.f3 false true false false) := by
  refine returnsInHanded_of_change_and (C := Tryd.checked) (X := fun w _ => laidMetH Tryd.prog Rows.nodesetNextRow.laid w) (fun _ _ _ hh h => h.of_heap hh) own started (by kernel_rfl) Tryd.func3
    (ChangeSpec.witness_shaped (enc := enc) (C := Tryd.checked) (os := os) (X := fun w _ => laidMetH Tryd.prog Rows.nodesetNextRow.laid w) false (World.doorLaid Tryd.prog 400 os) #[.int .u8 0] 8 rfl (World.shaped_of_RefB (by kernel_rfl) (by kernel_rfl)) (by kernel_rfl) (by kernel_rfl) (by kernel_rfl) (door_met os _)) ?_
  intro W base args ds gs before hval0 hW hcnd hsz0 _ _
  have hsz : (DataW.weightsEach Tryd.prog (Tryd.f3.params.toList ++ Rows.nodesetNextSpec.plain.varTypes Tryd.prog) (ds ++ gs)).all (· ≤ reachBytes) = true := hsz0
  have hval : ∀ (j : Nat) t v, Tryd.f3.params[j]? = some t → args[j]? = some v → Value.okWide Tryd.prog W .any base t v := hval0
  have hW' := hW
  obtain ⟨p, q, hA0, hV, rfl, hfz, hnd⟩ := hW
  have hA : DataW.TrodAll enc Tryd.prog W 0 (fun _ => true) true Tryd.f3.params.toList args.toList ds p := hA0
  rw [Tryd.params3] at hA hval hsz
  obtain ⟨v0, vs0, d0, ds0, p0, q0, hargs, rfl, rfl, h0, r0⟩ := trodAll_cons hA
  obtain ⟨rfl, rfl, rfl⟩ := trodAll_nil r0
  obtain rfl : args = #[v0] := by cases args; simp_all
  obtain ⟨rfl, rfl⟩ := trodVars_none hV
  obtain ⟨a0, rfl, rfl, rfl, w0⟩ := open_int Tryd.underlying5 (hval 0 5 v0 rfl rfl) h0
  clear hA0 hval0 hsz0 hsz
  refine (G.trustquorumlaw01_NodesetNext.walk Pure.NodesetNext a0 W w0).mono fun e W' ⟨he, bel⟩ => ?_
  subst he
  exact ⟨_, rfl, _, _, _, [], _, [], hW', trodAll_mk1 (shut_bool Tryd.underlying4 _), (trodAll_cons_mk (shut_int Tryd.underlying5 w0) trodAll_mk0), rfl, bel.frame _, fun h => by cases h⟩
theorem over : Rows.nodesetNextRow.holds Tryd.pinned (OpenSpec.ofChange Rows.nodesetNextSpec) :=
  OpenClaim.holds_of_wide 3 Tryd.f3 rfl rfl rfl rfl rfl rfl rfl ⟨rfl, rfl, rfl, rfl, rfl⟩ rfl rfl rfl rfl rfl (by kernel_rfl) Tryd.func3 (by kernel_rfl)
    (of_decide_eq_true (by kernel_rfl)) (by unfold Func.isWrapper; first | (rw [if_pos (by decide +kernel)]; kernel_rfl) | (rw [if_neg (by decide +kernel)]; exact ⟨rfl, rfl⟩))
    (fun os started H enc _ => lifted os started H enc)
theorem proved : Rows.NodesetNextSaid := over
end Go.Proofs.YtfkpimjiaijmgaaDoor.nodesetNext
namespace Go.Proofs.YtfkpimjiaijmgaaDoor
/-- The tied card, for the claim. -/
theorem nodesetNext_holds : Rows.NodesetNextCardSaid :=
  Claim7.holds_tied_plain_at .later [] [.data, .data, .data] true (true, "e8da6328cacec61c5287b810aaa4802ec8fe0ed63228956437a4b3d0edbd7f4d") false
    nodesetNext.proved (fun _ h => by cases h) (by kernel_rfl) (fun _ h => by cases h) nodesetNext_row_tie rfl ⟨rfl, rfl⟩ (by kernel_rfl) rfl
    (fun f fn hf hfn => by
      obtain rfl : f = 3 := Option.some.inj ((show Tryd.prog.funcNamed "trustquorum/trustquorumlaw01.NodesetNext" = some 3 by kernel_rfl).symm.trans hf) |>.symm
      obtain rfl : fn = Tryd.f3 := (Option.some.inj (Tryd.func3.symm.trans hfn)).symm
      exact ⟨by kernel_rfl, fun j t ht => by
        rw [Tryd.params3] at ht
        have hm : t ∈ [5] := by simpa using Array.mem_of_getElem? ht
        have hall : ([5].all fun u => !Tryd.prog.wantsStandIn u) = true := by kernel_rfl
        exact (show Tryd.prog.wantsStandIn t = false by simpa using List.all_eq_true.1 hall t hm)⟩)
    (by kernel_rfl)
end Go.Proofs.YtfkpimjiaijmgaaDoor
end
#print axioms Go.Proofs.YtfkpimjiaijmgaaDoor.nodesetNext_holds
