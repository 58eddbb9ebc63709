/- NodesetTexts: the texts of the claim, put together (part 3 of 3). The law is proved in the last one: it takes no condition beyond the statement's own. -/
import Derived.Test.YtfkpimjiaijmgaaDoorRows
import Derived.Test.YtfkpimjiaijmgaaDoorCards
import Derived.Test.YtfkpimjiaijmgaaDoorTie
import Derived.SevenTiedAt
import Derived.LaidMore
import Derived.LaidHandle
import Derived.LaidLaws
import Derived.Stop.Joined
import Derived.WalkKit
import Derived.ProofKit
import Derived.OpenShut
import Derived.ShutString
import Derived.ChangeOld
import Derived.Below
import Derived.SizedLaws
import Derived.Test.YtfkpimjiaijmgaaDoorCNodesetTexts1
section
namespace Go.Proofs.YtfkpimjiaijmgaaDoor.Q
open Go.RowKit Go.Proofs.YtfkpimjiaijmgaaDoor.G Go.Proofs.YtfkpimjiaijmgaaDoorW.PrintWords Go.Proofs.YtfkpimjiaijmgaaDoorW.PrintLast Go.Proofs.YtfkpimjiaijmgaaDoorW.PrintMore Go.Proofs.YtfkpimjiaijmgaaDoorV
set_option linter.unusedVariables false
def textOk (x : Nat) : Bool := match nodeset_Text.f 30 (x : Int) with
  | some t => parseG t.data.toList 0 == (x : Int) && (parseG t.toList 0 == (x : Int) && decide (t.size ≤ 1000))
  | none => false
set_option maxRecDepth 100000 in
theorem text_all : ∀ x : Fin 1024, textOk x.1 = true := by decide +kernel
def nodesOk (x : Nat) : Bool := match nodeset_Nodes.f 30 (x : Int) with
  | some l => nodeset_Of.f 60 l == some ((x : Int), 0)
  | none => false
set_option maxRecDepth 100000 in
theorem nodes_all : ∀ x : Fin 1024, nodesOk x.1 = true := by decide +kernel
theorem text_is {x : Nat} (hx : x < 1024) : ∃ t : ByteArray, nodeset_Text.f 30 (x : Int) = some t ∧ parseG t.data.toList 0 = (x : Int) ∧ parseG t.toList 0 = (x : Int) ∧ t.size ≤ 1000 := by
  have h := text_all ⟨x, hx⟩
  unfold textOk at h
  split at h
  · rename_i t e
    simp only [Bool.and_eq_true, beq_iff_eq, decide_eq_true_eq] at h
    exact ⟨t, e, h.1, h.2.1, h.2.2⟩
  · cases h
theorem nodes_is {x : Nat} (hx : x < 1024) : ∃ l : List Int, nodeset_Nodes.f 30 (x : Int) = some l ∧ nodeset_Of.f 60 l = some ((x : Int), 0) := by
  have h := nodes_all ⟨x, hx⟩
  unfold nodesOk at h
  split at h
  · rename_i l e
    exact ⟨l, e, by simpa using h⟩
  · cases h
theorem nodesetTexts_true : trustquorumlaw01_NodesetTexts.Pure := by
  intro a0 a1 h0 h1
  have red : ∀ a : Int, (Lit.int .u16 a).wf = true → ∃ n : Nat, Int.tmod (wrap64 a) 1024 = (n : Int) ∧ n < 1024 := fun a h => by
    have h' : 0 ≤ a ∧ a ≤ 65535 := by simpa [Go.Lit.wf, IntKind.min, IntKind.max, IntKind.signed, IntKind.bits] using h
    rw [wrap_of (by omega) (by omega)]
    have t1 := Int.tmod_lt_of_pos a (show (0 : Int) < 1024 by omega)
    have t2 := Int.tmod_nonneg 1024 (show 0 ≤ a by omega)
    exact ⟨(Int.tmod a 1024).toNat, by omega, by omega⟩
  obtain ⟨x, ex, hx⟩ := red a0 h0
  obtain ⟨y, ey, hy⟩ := red a1 h1
  obtain ⟨t, et, p1, p2, hs⟩ := text_is hx
  obtain ⟨u, eu, q1, q2, _⟩ := text_is hy
  obtain ⟨l, el, eo⟩ := nodes_is hx
  have T1 : Ev (fun k => nodeset_Text.f k (x : Int)) t := Ev.of (fun k => nodeset_Text.mono (x : Int) k) et
  have T2 : Ev (fun k => nodeset_Text.f k (y : Int)) u := Ev.of (fun k => nodeset_Text.mono (y : Int) k) eu
  have T3 : Ev (fun k => nodeset_Nodes.f k (x : Int)) l := Ev.of (fun k => nodeset_Nodes.mono (x : Int) k) el
  have T4 : Ev (fun k => nodeset_Of.f k l) ((x : Int), 0) := Ev.of (fun k => nodeset_Of.mono l k) eo
  have T5 : Ev (fun k => nodeset_Parse.f k t) ((x : Int), 0) := by
    refine Ev.congr (f := fun k => (nodeset_Text.f k (x : Int)).bind fun v => some ((if v.toList = t.toList then (x : Int) else 0), (if v.toList = t.toList then 0 else 2))) (fun k => ?_) (Ev.bind T1 (Ev.congr (f := fun _ => some ((x : Int), (0 : Int))) (fun k => by rw [if_pos rfl, if_pos rfl]) (Ev.now _)))
    unfold nodeset_Parse.f
    rw [if_pos (by omega), p1]
  have hxy : (t.toList == u.toList) = ((x : Int) == (y : Int)) := by
    rw [Bool.eq_iff_iff, beq_iff_eq, beq_iff_eq]
    constructor
    · intro h; rw [← p2, ← q2, h]
    · intro h
      have : x = y := by omega
      subst this
      rw [et] at eu
      rw [Option.some.inj eu]
  refine Ev.rounds (g := fun k => trustquorumlaw01_NodesetTexts.f k a0 a1) ?_
  refine Ev.congr (fun k => by unfold trustquorumlaw01_NodesetTexts.f; rw [ex, ey]) (Ev.bind T1 (Ev.bind T5 (Ev.bind T3 (Ev.bind T4 ?_))))
  simp only [if_true]
  refine Ev.bind T1 (Ev.bind T2 ?_)
  simp only [hxy]
  exact Ev.congr (fun k => if_pos (by simp)) (Ev.bind awake_ev (Ev.now _))
end Go.Proofs.YtfkpimjiaijmgaaDoor.Q
end
section
namespace Go.Proofs.YtfkpimjiaijmgaaDoor.Pure
open Go.RowKit Go.Proofs.YtfkpimjiaijmgaaDoor.G Go.Proofs.YtfkpimjiaijmgaaDoorW.PrintWords Go.Proofs.YtfkpimjiaijmgaaDoorW.PrintLast
/-- YOURS: ∀ (a0 : Int) (a1 : Int), (Lit.int .u16 a0).wf = true → (Lit.int .u16 a1).wf = true → ∃ k, trustquorumlaw01_NodesetTexts.f k a0 a1 = some true
What it reaches (each with k first where it has rounds; `.mono`: more rounds tell the same; `.l0`, ..: its loops, with `.mono_l`): nodeset_below.f, nodeset_Valid.f, bits_OnesCount64.f, bits_OnesCount.f, nodeset_Size.f, nodeset_Next.f, cmp_Or_int.f, cmp_isNaN_int.f, cmp_Compare_int.f, nodeset_rank.f, nodeset_Compare.f, nodeset_Least.f, nodeset_Meeting.f, trustquorummake_Ints.f, nodeset_Has.f, nodeset_Nodes.f, strconv_Itoa.f, strings_Join.f, nodeset_Text.f, trustquorumlaw01_awake.f, nodeset_Parse.f, nodeset_Of.f, trustquorumlaw01_NodesetTexts.f -/
theorem NodesetTexts : trustquorumlaw01_NodesetTexts.Pure := Q.nodesetTexts_true
end Go.Proofs.YtfkpimjiaijmgaaDoor.Pure
end
section
namespace Go.Proofs.YtfkpimjiaijmgaaDoor.nodesetTexts
open Go.ChangeShapes Go.WideShapes Go.ChangeAt Go.RowKit
open Go.ChangeMaps (open_string shut_string)
set_option linter.unusedVariables false
theorem own : ownKnob Tryd.prog.godebug = none := by kernel_rfl
/-- The door's own heap meets the condition: three closed facts. -/
theorem door_met (os : Os) (args : Array Value) : laidMetH Tryd.prog Rows.nodesetTextsRow.laid ((World.doorLaid Tryd.prog 400 os).forCall (fun _ _ => 0) ⟨#[], args, []⟩).memory :=
  laidMetH_of_parts3 (fuel := 8) (laidMet_of_run' 8 (by kernel_rfl) (by kernel_rfl)) (by kernel_rfl) (by kernel_rfl)
set_option maxRecDepth 100000 in
theorem lifted (os : Os) (started : os.Started) (H : Type) (enc : TypeId × Value → H) :
    ReturnsInHanded {} Tryd.checked os 7 .any (fun w args => (Rows.nodesetTextsSpec.pre enc Tryd.prog Tryd.f7 [] false w args ∧ laidMetH Tryd.prog Rows.nodesetTextsRow.laid w) ∧ sizedMet enc Tryd.prog Tryd.f7 (OpenSpec.ofChange Rows.nodesetTextsSpec) false w args) (Rows.nodesetTextsSpec.post enc Tryd.prog Tryd.f7 false true false false) := by
  refine returnsInHanded_of_change_and (C := Tryd.checked) (X := fun w _ => laidMetH Tryd.prog Rows.nodesetTextsRow.laid w) (fun _ _ _ hh h => h.of_heap hh) own started (by kernel_rfl) Tryd.func7
    (ChangeSpec.witness_shaped (enc := enc) (C := Tryd.checked) (os := os) (X := fun w _ => laidMetH Tryd.prog Rows.nodesetTextsRow.laid w) false (World.doorLaid Tryd.prog 400 os) #[.int .u16 0, .int .u16 0] 8 rfl (World.shaped_of_RefB (by kernel_rfl) (by kernel_rfl)) (by kernel_rfl) (by kernel_rfl) (by kernel_rfl) (door_met os _)) ?_
  intro W base args ds gs before hval0 hW hcnd hsz0 _ _
  have hsz : (DataW.weightsEach Tryd.prog (Tryd.f7.params.toList ++ Rows.nodesetTextsSpec.plain.varTypes Tryd.prog) (ds ++ gs)).all (· ≤ reachBytes) = true := hsz0
  have hval : ∀ (j : Nat) t v, Tryd.f7.params[j]? = some t → args[j]? = some v → Value.okWide Tryd.prog W .any base t v := hval0
  have hW' := hW
  obtain ⟨p, q, hA0, hV, rfl, hfz, hnd⟩ := hW
  have hA : DataW.TrodAll enc Tryd.prog W 0 (fun _ => true) true Tryd.f7.params.toList args.toList ds p := hA0
  rw [Tryd.params7] at hA hval hsz
  obtain ⟨v0, vs0, d0, ds0, p0, q0, hargs, rfl, rfl, h0, r0⟩ := trodAll_cons hA
  obtain ⟨v1, vs1, d1, ds1, p1, q1, rfl, rfl, rfl, h1, r1⟩ := trodAll_cons r0
  obtain ⟨rfl, rfl, rfl⟩ := trodAll_nil r1
  obtain rfl : args = #[v0, v1] := by cases args; simp_all
  obtain ⟨rfl, rfl⟩ := trodVars_none hV
  obtain ⟨a0, rfl, rfl, rfl, w0⟩ := open_int Tryd.underlying39 (hval 0 39 v0 rfl rfl) h0
  obtain ⟨a1, rfl, rfl, rfl, w1⟩ := open_int Tryd.underlying39 (hval 1 39 v1 rfl rfl) h1
  clear hA0 hval0 hsz0 hsz
  refine (G.trustquorumlaw01_NodesetTexts.walk Pure.NodesetTexts a0 a1 W w0 w1).mono fun e W' ⟨he, bel⟩ => ?_
  subst he
  exact ⟨_, rfl, _, _, _, [], _, [], hW', trodAll_mk1 (shut_bool Tryd.underlying4 _), (trodAll_cons_mk (shut_int Tryd.underlying39 w0) (trodAll_cons_mk (shut_int Tryd.underlying39 w1) trodAll_mk0)), rfl, bel.frame _, fun h => by cases h⟩
theorem over : Rows.nodesetTextsRow.holds Tryd.pinned (OpenSpec.ofChange Rows.nodesetTextsSpec) :=
  OpenClaim.holds_of_wide 7 Tryd.f7 rfl rfl rfl rfl rfl rfl rfl ⟨rfl, rfl, rfl, rfl, rfl⟩ rfl rfl rfl rfl rfl (by kernel_rfl) Tryd.func7 (by kernel_rfl)
    (of_decide_eq_true (by kernel_rfl)) (by unfold Func.isWrapper; first | (rw [if_pos (by decide +kernel)]; kernel_rfl) | (rw [if_neg (by decide +kernel)]; exact ⟨rfl, rfl⟩))
    (fun os started H enc _ => lifted os started H enc)
theorem proved : Rows.NodesetTextsSaid := over
end Go.Proofs.YtfkpimjiaijmgaaDoor.nodesetTexts
namespace Go.Proofs.YtfkpimjiaijmgaaDoor
/-- The tied card, for the claim. -/
theorem nodesetTexts_holds : Rows.NodesetTextsCardSaid :=
  Claim7.holds_tied_plain_at .later [] [.data, .data, .data] true (true, "e8da6328cacec61c5287b810aaa4802ec8fe0ed63228956437a4b3d0edbd7f4d") false
    nodesetTexts.proved (fun _ h => by cases h) (by kernel_rfl) (fun _ h => by cases h) nodesetTexts_row_tie rfl ⟨rfl, rfl⟩ (by kernel_rfl) rfl
    (fun f fn hf hfn => by
      obtain rfl : f = 7 := Option.some.inj ((show Tryd.prog.funcNamed "trustquorum/trustquorumlaw01.NodesetTexts" = some 7 by kernel_rfl).symm.trans hf) |>.symm
      obtain rfl : fn = Tryd.f7 := (Option.some.inj (Tryd.func7.symm.trans hfn)).symm
      exact ⟨by kernel_rfl, fun j t ht => by
        rw [Tryd.params7] at ht
        have hm : t ∈ [39] := by simpa using Array.mem_of_getElem? ht
        have hall : ([39].all fun u => !Tryd.prog.wantsStandIn u) = true := by kernel_rfl
        exact (show Tryd.prog.wantsStandIn t = false by simpa using List.all_eq_true.1 hall t hm)⟩)
    (by kernel_rfl)
end Go.Proofs.YtfkpimjiaijmgaaDoor
end
#print axioms Go.Proofs.YtfkpimjiaijmgaaDoor.nodesetTexts_holds
