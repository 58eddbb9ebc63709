/- NodesetMeets: the texts of the claim, put together (part 3 of 3). The law is proved in the last one: it takes no condition beyond the statement's own. -/
import Derived.Test.YtfkpimjiaijmgaaDoorRows
import Derived.Test.YtfkpimjiaijmgaaDoorCards
import Derived.Test.YtfkpimjiaijmgaaDoorTie
import Derived.SevenTiedAt
import Derived.LaidMore
import Derived.LaidHandle
import Derived.LaidLaws
import Derived.Stop.Joined
import Derived.WalkKit
import Derived.ProofKit
import Derived.OpenShut
import Derived.ShutString
import Derived.ChangeOld
import Derived.Below
import Derived.SizedLaws
import Derived.Test.YtfkpimjiaijmgaaDoorCNodesetMeets1
section
namespace Go.Proofs.YtfkpimjiaijmgaaDoor.G
open Go.RowKit Go.Proofs.YtfkpimjiaijmgaaDoorW.PrintWords Go.Proofs.YtfkpimjiaijmgaaDoorW.PrintLast Go.Proofs.YtfkpimjiaijmgaaDoorW.PrintMore
attribute [local go_sem] max2_int min2_int max_two min_two max_three min_three max_four min_four   -- for this text's walks alone
set_option linter.unusedVariables false
set_option linter.unusedSimpArgs false
mutual
def trustquorumlaw01_NodesetMeets.l0 : Nat → Int → List Int → List Int → List Int → Int → Int → Option (Bool)
  | 0, _, _, _, _, _, _ => none
  | k + 1, x4, x5, x6, x33, x34, x35 => if x35 < x34 then (if 0 ≤ x35 then (if x35 < (x33.length : Int) then ((trustquorumref01_Nodes.f k (rd x33 x35)).bind fun t215 => (if t215.length < 17592186044416 then ((some (t215 ++ [(-1)] : List Int)).bind fun y218 => (trustquorumlaw01_NodesetMeets.l1 k x4 x5 x6 (rd x33 x35) x33 x34 x35 y218 (y218.length : Int) 0)) else (none))) else (none)) else (none)) else ((nodeset_Meeting.f x6 x4).bind fun bt223 => (if bt223.2 = 0 then ((nodeset_Least.f x5).bind fun t227 => ((trustquorummake_Ints.f k bt223.1 t227).bind fun t230 => (if t230 = true then ((trustquorumlaw01_awake.f k).bind fun t231 => (some t231)) else (some false)))) else (some false)))
def trustquorumlaw01_NodesetMeets.l1 : Nat → Int → List Int → List Int → Int → List Int → Int → Int → List Int → Int → Int → Option (Bool)
  | 0, _, _, _, _, _, _, _, _, _, _ => none
  | k + 1, x4, x5, x6, x9, x33, x34, x35, x42, x43, x44 => if x44 < x43 then (if 0 ≤ x44 then (if x44 < (x42.length : Int) then (if (rd x42 x44) ≥ 0 then (if 0 ≤ (rd x42 x44) then (trustquorumlaw01_NodesetMeets.j2 k x4 x5 x6 x9 (rd x42 x44) (wrap64 (x9 - (shl .i64 1 (rd x42 x44)))) x33 x34 x35 x42 x43 x44) else (none)) else (trustquorumlaw01_NodesetMeets.j2 k x4 x5 x6 x9 (rd x42 x44) x9 x33 x34 x35 x42 x43 x44)) else (none)) else (none)) else (trustquorumlaw01_NodesetMeets.l0 k x4 x5 x6 x33 x34 (wrap64 (x35 + 1)))
def trustquorumlaw01_NodesetMeets.j2 : Nat → Int → List Int → List Int → Int → Int → Int → List Int → Int → Int → List Int → Int → Int → Option (Bool)
  | 0, _, _, _, _, _, _, _, _, _, _, _, _ => none
  | k + 1, x4, x5, x6, x9, x11, x12, x33, x34, x35, x42, x43, x44 => trustquorumlaw01_NodesetMeets.l2 k x4 x5 x6 x9 x11 x12 true x33 x34 x35 x42 x43 x44 x5 (x5.length : Int) 0
def trustquorumlaw01_NodesetMeets.l2 : Nat → Int → List Int → List Int → Int → Int → Int → Bool → List Int → Int → Int → List Int → Int → Int → List Int → Int → Int → Option (Bool)
  | 0, _, _, _, _, _, _, _, _, _, _, _, _, _, _, _, _ => none
  | k + 1, x4, x5, x6, x9, x11, x12, x13, x33, x34, x35, x42, x43, x44, x55, x56, x57 => if x57 < x56 then (if 0 ≤ x57 then (if x57 < (x55.length : Int) then (if x13 = true then (trustquorumlaw01_NodesetMeets.l2 k x4 x5 x6 x9 x11 x12 ((Go.bits .and .i64 x12 (rd x55 x57)) != 0) x33 x34 x35 x42 x43 x44 x55 x56 (wrap64 (x57 + 1))) else (trustquorumlaw01_NodesetMeets.l2 k x4 x5 x6 x9 x11 x12 false x33 x34 x35 x42 x43 x44 x55 x56 (wrap64 (x57 + 1)))) else (none)) else (none)) else (if (x13 != (decide (x11 < 0))) = true then (some false) else (trustquorumlaw01_NodesetMeets.l1 k x4 x5 x6 x9 x33 x34 x35 x42 x43 (wrap64 (x44 + 1))))
end
def trustquorumlaw01_NodesetMeets.f (k : Nat) (l0 : List Int) : Option (Bool) := (trustquorummake_New.f l0).bind fun bt201 => ((trustquorummake_Tape_Range.f bt201.1 bt201.2 1 8).bind fun bt204 => ((trustquorummake_Sets.f k bt201.1 bt204.2 8 bt204.1).bind fun bt206 => ((nodeset_Meeting.f bt206.1 bt204.1).bind fun bt210 => (if bt210.2 = 0 then (trustquorumlaw01_NodesetMeets.l0 k bt204.1 bt206.1 bt210.1 bt210.1 (bt210.1.length : Int) 0) else (some false)))))
set_option maxHeartbeats 8000000 in
set_option maxRecDepth 100000 in
theorem trustquorumlaw01_NodesetMeets.calls (k : Nat) (A0 : Option Addr) (c0 : Nat) (l0 : List Int) (r : Bool) (w : World) (hr0 : Kd.C (Kd.int .i64) w A0 l0.length l0) (hc0 : l0.length ≤ c0) (h : trustquorumlaw01_NodesetMeets.f k l0 = some r) :
    Calls Tryd.prog 5 #[.slice A0 l0.length c0] w fun e w' => e = .returned (.bool r) ∧ Below w.heap.size w w' := by
  have HR0 := Aside0.mk hr0
  have HC0 := Aside0.mk hc0
  clear hr0 hc0
  have HB := Aside0.mk (Below.refl w.heap.size w)
  have H : ((trustquorummake_New.f l0).bind fun bt201 => ((trustquorummake_Tape_Range.f bt201.1 bt201.2 1 8).bind fun bt204 => ((trustquorummake_Sets.f k bt201.1 bt204.2 8 bt204.1).bind fun bt206 => ((nodeset_Meeting.f bt206.1 bt204.1).bind fun bt210 => (if bt210.2 = 0 then (trustquorumlaw01_NodesetMeets.l0 k bt204.1 bt206.1 bt210.1 bt210.1 (bt210.1.length : Int) 0) else (some false)))))) = some r := h
  clear h
  replace H := Option.bind_eq_some_iff.mp H
  obtain ⟨⟨t201, t202⟩, A20, H⟩ := H
  replace H : ((trustquorummake_Tape_Range.f t201 t202 1 8).bind fun bt204 => ((trustquorummake_Sets.f k t201 bt204.2 8 bt204.1).bind fun bt206 => ((nodeset_Meeting.f bt206.1 bt204.1).bind fun bt210 => (if bt210.2 = 0 then (trustquorumlaw01_NodesetMeets.l0 k bt204.1 bt206.1 bt210.1 bt210.1 (bt210.1.length : Int) 0) else (some false))))) = some r := H
  have A2 := Aside0.mk A20
  clear A20
  replace H := Option.bind_eq_some_iff.mp H
  obtain ⟨⟨t204, t205⟩, A30, H⟩ := H
  replace H : ((trustquorummake_Sets.f k t201 t205 8 t204).bind fun bt206 => ((nodeset_Meeting.f bt206.1 t204).bind fun bt210 => (if bt210.2 = 0 then (trustquorumlaw01_NodesetMeets.l0 k t204 bt206.1 bt210.1 bt210.1 (bt210.1.length : Int) 0) else (some false)))) = some r := H
  have A3 := Aside0.mk A30
  clear A30
  replace H := Option.bind_eq_some_iff.mp H
  obtain ⟨⟨t206, t209⟩, A40, H⟩ := H
  replace H : ((nodeset_Meeting.f t206 t204).bind fun bt210 => (if bt210.2 = 0 then (trustquorumlaw01_NodesetMeets.l0 k t204 t206 bt210.1 bt210.1 (bt210.1.length : Int) 0) else (some false))) = some r := H
  have A4 := Aside0.mk A40
  clear A40
  replace H := Option.bind_eq_some_iff.mp H
  obtain ⟨⟨t210, t211⟩, A50, H⟩ := H
  replace H : (if t211 = 0 then (trustquorumlaw01_NodesetMeets.l0 k t204 t206 t210 t210 (t210.length : Int) 0) else (some false)) = some r := H
  have A5 := Aside0.mk A50
  clear A50
  by_cases c6 : t211 = 0
  · rw [if_pos c6] at H
    have c6b0 : (t211 == 0) = true := beq_iff_eq.mpr c6
    have c6b1 : (t211 != 0) = false := bne_eq_false_iff_eq.mpr c6
    clear c6
    have H' := Aside0.mk H
    clear H
    go_enter Tryd.func5, Tryd.ntmps5
    go_wp2_with (first | ((with_reducible refine gate_callee (f := 12) rfl ?_); refine goesL_ (some 19) rfl rfl Tryd.func12 (by kernel_rfl) rfl #[.slice A0 l0.length c0] rfl (by (try simp only [List.map_toArray, List.map_cons, List.map_nil]); first | done | rfl | (simp only [List.length_drop, List.length_take]; rfl)) ?_; (with_reducible refine (trustquorummake_New.calls _ _ l0 t201 t202 w _ ?side1 ?side2 ?side3 A2.out).mono ?_); (case side1 => repeat (first | (with_reducible first | exact HB.out | apply below_alloc | apply pw_below_drewN | apply below_drew1) | exact HB.out)); (case side2 => exact HR0.out); (case side3 => exact HC0.out); rintro e w7 ⟨g203, rfl, hi, hb, hb2⟩; refine ⟨_, rfl, ?_⟩; have n0_ := Aside0.mk (hb); have n1_ := Aside0.mk (hi); clear HB; have HB := n0_; have HI203 := n1_; clear n0_ n1_; (try clear hb); (try clear hb2); (try clear hk); (try clear hi)) | ((with_reducible refine gate_callee (f := 14) rfl ?_); refine goesL_ (some 21) rfl rfl Tryd.func14 (by kernel_rfl) rfl #[.pointer (some ⟨g203, 0, none⟩), .int .i64 1, .int .i64 8] rfl (by (try simp only [List.map_toArray, List.map_cons, List.map_nil]); first | done | rfl | (simp only [List.length_drop, List.length_take]; rfl)) ?_; (with_reducible refine (trustquorummake_Tape_Range.calls g203 t201 t202 1 8 t204 t205 w _ ?side1 ?side2 A3.out).mono ?_); (case side1 => repeat (first | (with_reducible first | exact HI203.out | apply IsS51.alloc | apply IsS51.drewN | apply IsS51.drew | apply IsS51.set_1) | exact HI203.out)); (case side2 => repeat (first | (with_reducible first | exact HB.out | apply below_alloc | apply pw_below_drewN | apply below_drew1 | refine below_set ?_ (IsS51.ge HI203.out)) | exact HB.out)); rintro e w8 ⟨rfl, hi, hb, hk⟩; refine ⟨_, rfl, ?_⟩; have n0_ := Aside0.mk (hb); have n1_ := Aside0.mk (hi); clear HB; clear HI203; have HB := n0_; have HI203 := n1_; clear n0_ n1_; (try clear hb); (try clear hb2); (try clear hk); (try clear hi)) | ((with_reducible refine gate_callee (f := 13) rfl ?_); refine goesL_ (some 24) rfl rfl Tryd.func13 (by kernel_rfl) rfl #[.pointer (some ⟨g203, 0, none⟩), .int .i64 8, .int .i64 t204] rfl (by (try simp only [List.map_toArray, List.map_cons, List.map_nil]); first | done | rfl | (simp only [List.length_drop, List.length_take]; rfl)) ?_; (with_reducible refine (trustquorummake_Sets.calls k g203 t201 t205 8 t204 t206 t209 w _ ?side1 ?side2 A4.out).mono ?_); (case side1 => repeat (first | (with_reducible first | exact HI203.out | apply IsS51.alloc | apply IsS51.drewN | apply IsS51.drew | apply IsS51.set_1) | exact HI203.out)); (case side2 => repeat (first | (with_reducible first | exact HB.out | apply below_alloc | apply pw_below_drewN | apply below_drew1 | refine below_set ?_ (IsS51.ge HI203.out)) | exact HB.out)); rintro e w9 ⟨v207, rfl, ho0, hi, hb, hk⟩; refine ⟨_, rfl, ?_⟩; have n0_ := Aside0.mk (Kd.R_lower ho0 (below_size (by repeat (first | (with_reducible first | exact HB.out | apply below_alloc | apply pw_below_drewN | apply below_drew1 | refine below_set ?_ (IsS51.ge HI203.out)) | exact HB.out)))); have n1_ := Aside0.mk (hb); have n2_ := Aside0.mk (hi); clear HB; clear HI203; have HO208 := n0_; have HB := n1_; have HI203 := n2_; clear n0_ n1_ n2_; (try clear hb); (try clear hb2); (try clear hk); (try clear hi); (try clear ho0); obtain ⟨Ao10, co10, eo10⟩ := Kd.R_slice HO208.out; subst eo10) | ((with_reducible refine gate_callee (f := 17) rfl ?_); refine goesL_ (some 28) rfl rfl Tryd.func17 (by kernel_rfl) rfl #[.slice Ao10 t206.length co10, .int .i64 t204] rfl (by (try simp only [List.map_toArray, List.map_cons, List.map_nil]); first | done | rfl | (simp only [List.length_drop, List.length_take]; rfl)) ?_; (with_reducible refine (nodeset_Meeting.calls _ _ t206 t204 t210 t211 _ ?side1 ?side2 A5.out).mono ?_); (case side1 => repeat (first | exact (Kd.R_reads' HO208.out).2.2 | (with_reducible refine Kd.C_alloc ?_ _) | (with_reducible refine Kd.C_drewN ?_ _) | (with_reducible refine Kd.C_drew ?_))); (case side2 => exact (Kd.R_reads' HO208.out).2.1); rintro e w11 ⟨v212, rfl, ho0, hb⟩; refine ⟨_, rfl, ?_⟩; have n0_ := Aside0.mk (Kd.R_elder' (by (with_reducible repeat (first | apply Kd.R_alloc | apply Kd.R_drewN | apply Kd.R_drew)); exact HO208.out) (Kd.R_base ho0) hb); have n1_ := Aside0.mk (Kd.R_lower (Kd.R_new' ho0 (Kd.R_lt (by (with_reducible repeat (first | apply Kd.R_alloc | apply Kd.R_drewN | apply Kd.R_drew)); exact HO208.out))) (below_size (by repeat (first | (with_reducible first | exact HB.out | apply below_alloc | apply pw_below_drewN | apply below_drew1 | refine below_set ?_ (IsS51.ge HI203.out)) | exact HB.out)))); have n2_ := Aside0.mk (IsS51.below (by repeat (first | (with_reducible first | exact HI203.out | apply IsS51.alloc | apply IsS51.drewN | apply IsS51.drew | apply IsS51.set_1) | exact HI203.out)) hb); have n3_ := Aside0.mk (below_step (by repeat (first | (with_reducible first | exact HB.out | apply below_alloc | apply pw_below_drewN | apply below_drew1 | refine below_set ?_ (IsS51.ge HI203.out)) | exact HB.out)) hb); clear HO208; clear HI203; clear HB; have HO208 := n0_; have HO213 := n1_; have HI203 := n2_; have HB := n3_; clear n0_ n1_ n2_ n3_; (try clear hb); (try clear hb2); (try clear hk); (try clear hi); (try clear ho0); obtain ⟨Ao12, co12, eo12⟩ := Kd.R_slice HO213.out; subst eo12))
    go_loopg [35] k (fun kq v35 w' => ∃ (x35_1 : Int), v35 = .int .i64 x35_1 ∧ Aside0 (trustquorumlaw01_NodesetMeets.l0 kq t204 t206 t210 t210 (t210.length : Int) x35_1 = some r) ∧ Aside0 (kq ≤ k) ∧ Aside0 (Kd.R (Kd.int .i64) 3 w' w.heap.size (fun k_ => some k_ ≠ ((.slice Ao12 t210.length co12) : Value).ownBlock ∧ some k_ ≠ ((.slice Ao12 t210.length co12) : Value).ownBlock) (.slice Ao10 t206.length co10) t206) ∧ Aside0 (Kd.R (Kd.int .i64) 3 w' w.heap.size (fun k_ => some k_ ≠ ((.slice Ao10 t206.length co10) : Value).ownBlock) (.slice Ao12 t210.length co12) t210) ∧ Aside0 (Kd.R (Kd.int .i64) 3 w' w.heap.size (fun k_ => some k_ ≠ ((.slice Ao10 t206.length co10) : Value).ownBlock) (.slice Ao12 t210.length co12) t210) ∧ Aside0 (Below w.heap.size w w'))
    case atStart => exact ⟨(0), (by first | rfl | (simp; done) | (simp [*]; done)), H', ⟨Nat.le_refl _⟩, ⟨by (with_reducible repeat (first | apply Kd.R_alloc | apply Kd.R_drewN | apply Kd.R_drew)); exact Kd.R_mono HO208.out (fun _ hk => ⟨hk.2, hk.2⟩)⟩, ⟨by (with_reducible repeat (first | apply Kd.R_alloc | apply Kd.R_drewN | apply Kd.R_drew)); exact Kd.R_mono HO213.out (fun _ hk => hk.2)⟩, ⟨by (with_reducible repeat (first | apply Kd.R_alloc | apply Kd.R_drewN | apply Kd.R_drew)); exact Kd.R_mono HO213.out (fun _ hk => hk.2)⟩, ⟨by repeat (first | (with_reducible first | exact HB.out | apply below_alloc | apply pw_below_drewN | apply below_drew1 | refine below_set ?_ (IsS51.ge HI203.out)) | exact HB.out)⟩⟩
    case round =>
      clear H'
      try clear c1
      try clear p2
      try clear c5
      try clear c6
      try clear c6b0
      try clear c6b1
      try clear c12
      obtain ⟨x35_1, rfl, HA, HK1, HO_5, HO_6, HO_33, HB⟩ := hrel
      cases gk with
      | zero => exact absurd HA.out (by simp [trustquorumlaw01_NodesetMeets.l0])
      | succ k1 =>
        have H := HA.out
        clear HA
        simp only [trustquorumlaw01_NodesetMeets.l0] at H
        by_cases c13 : x35_1 < (t210.length : Int)
        · rw [if_pos c13] at H
          have c13b0 : decide (x35_1 < (t210.length : Int)) = true := decide_eq_true c13
          clear c13
          by_cases c14 : 0 ≤ x35_1
          · rw [if_pos c14] at H
            have c14b0 : decide (0 ≤ x35_1) = true := decide_eq_true c14
            clear c14
            by_cases c15 : x35_1 < (t210.length : Int)
            · rw [if_pos c15] at H
              have c15b0 : decide (x35_1 < (t210.length : Int)) = true := decide_eq_true c15
              clear c15
              replace H := Option.bind_eq_some_iff.mp H
              obtain ⟨t215, A160, H⟩ := H
              replace H : (if t215.length < 17592186044416 then ((some (t215 ++ [(-1)] : List Int)).bind fun y218 => (trustquorumlaw01_NodesetMeets.l1 k1 t204 t206 t210 (rd t210 x35_1) t210 (t210.length : Int) x35_1 y218 (y218.length : Int) 0)) else (none)) = some r := H
              have A16 := Aside0.mk A160
              clear A160
              by_cases c17 : t215.length < 17592186044416
              · rw [if_pos c17] at H
                have LMc17 := Aside0.mk c17
                clear c17
                obtain ⟨y218, hy218⟩ : ∃ y_ : List Int, y_ = (t215 ++ [(-1)]) := ⟨_, rfl⟩
                replace H : (trustquorumlaw01_NodesetMeets.l1 k1 t204 t206 t210 (rd t210 x35_1) t210 (t210.length : Int) x35_1 y218 (y218.length : Int) 0) = some r := by first | (rw [hy218]; with_reducible exact H) | (have H2_ := (Option.bind_some _ _).symm.trans H; rw [hy218]; with_reducible exact H2_) | (have H2_ := (Option.bind_some _ _).symm.trans H; with_reducible exact H2_) | with_reducible exact H | (rw [hy218]; exact H) | exact H
                have Ny218 := Aside0.mk hy218
                clear hy218
                have H' := Aside0.mk H
                clear H
                have p214 : 0 ≤ (x35_1 : Int) := of_decide_eq_true (by first | (with_reducible assumption) | assumption)
                have q214 : x35_1 < (t210.length : Int) := of_decide_eq_true (by first | (with_reducible assumption) | assumption)
                obtain ⟨ad214, e214, hx214_0⟩ := Kd.at_int (Kd.R_reads' HO_33.out).2.2 x35_1 p214 q214
                cases e214
                replace p214 := eq_true p214
                replace q214 := eq_true q214
                go_wp2_with (first | ((with_reducible refine gate_callee (f := 18) rfl ?_); refine goesL_ (some 40) rfl rfl Tryd.func18 (by kernel_rfl) rfl #[.int .i64 (rd t210 x35_1)] rfl (by (try simp only [List.map_toArray, List.map_cons, List.map_nil]); first | done | rfl | (simp only [List.length_drop, List.length_take]; rfl)) ?_; (with_reducible refine (trustquorumref01_Nodes.calls k1 (rd t210 x35_1) t215 _ A16.out).mono ?_); rintro e w18 ⟨v216, rfl, ho0, hb⟩; refine ⟨_, rfl, ?_⟩; have n0_ := Aside0.mk (Kd.R_elder' (by (with_reducible repeat (first | apply Kd.R_alloc | apply Kd.R_drewN | apply Kd.R_drew)); exact HO_5.out) (Kd.R_base ho0) hb); have n1_ := Aside0.mk (Kd.R_elder' (by (with_reducible repeat (first | apply Kd.R_alloc | apply Kd.R_drewN | apply Kd.R_drew)); exact HO_6.out) (Kd.R_base ho0) hb); have n2_ := Aside0.mk (Kd.R_elder' (by (with_reducible repeat (first | apply Kd.R_alloc | apply Kd.R_drewN | apply Kd.R_drew)); exact HO_33.out) (Kd.R_base ho0) hb); have n3_ := Aside0.mk (Kd.R_lower (Kd.R_new' (Kd.R_new' (Kd.R_new' ho0 (Kd.R_lt (by (with_reducible repeat (first | apply Kd.R_alloc | apply Kd.R_drewN | apply Kd.R_drew)); exact HO_5.out))) (Kd.R_lt (by (with_reducible repeat (first | apply Kd.R_alloc | apply Kd.R_drewN | apply Kd.R_drew)); exact HO_6.out))) (Kd.R_lt (by (with_reducible repeat (first | apply Kd.R_alloc | apply Kd.R_drewN | apply Kd.R_drew)); exact HO_33.out))) (below_size (by repeat (first | (with_reducible first | exact HB.out | apply below_alloc | apply pw_below_drewN | apply below_drew1) | exact HB.out)))); have n4_ := Aside0.mk (below_step (by repeat (first | (with_reducible first | exact HB.out | apply below_alloc | apply pw_below_drewN | apply below_drew1) | exact HB.out)) hb); clear HO_5; clear HO_6; clear HO_33; clear HB; have HO_5 := n0_; have HO_6 := n1_; have HO_33 := n2_; have HO217 := n3_; have HB := n4_; clear n0_ n1_ n2_ n3_ n4_; (try clear hb); (try clear hb2); (try clear hk); (try clear hi); (try clear ho0)) | ((with_reducible refine gate_builtin (b := .append) (xs := #[.tmp 40, .tmp 41]) rfl ?_); at_builtin; refine Kd.R_append (Kd.int .i64) (w0 := w) w.heap.size rfl (.tmp 40) (.tmp 41) 27 3 (.int .i64 0) 8 rfl Tryd.underlying27 info3 rfl (by decide) (by omega) v216 t215 (-1) [.int .i64 (-1)] (fun k_ => some k_ ≠ (.slice Ao10 t206.length co10 : Value).ownBlock ∧ some k_ ≠ (.slice (some ad214) t210.length co12 : Value).ownBlock ∧ some k_ ≠ (.slice (some ad214) t210.length co12 : Value).ownBlock) (fun _ => False) rfl rfl ?aP (fun _ hk => hk.elim) ?aF ?aO ?aB ?aS ?aL ?_; (case aP => exact rfl); (case aB => exact (by repeat (first | (with_reducible first | exact HB.out | apply below_alloc | apply pw_below_drewN | apply below_drew1) | exact HB.out))); (case aF => exact (fun k_ hk => ⟨Kd.fresh' (Kd.R_lt (by (with_reducible repeat (first | apply Kd.R_alloc | apply Kd.R_drewN | apply Kd.R_drew)); exact HO_5.out)) k_ hk, Kd.fresh' (Kd.R_lt (by (with_reducible repeat (first | apply Kd.R_alloc | apply Kd.R_drewN | apply Kd.R_drew)); exact HO_6.out)) k_ hk, Kd.fresh' (Kd.R_lt (by (with_reducible repeat (first | apply Kd.R_alloc | apply Kd.R_drewN | apply Kd.R_drew)); exact HO_33.out)) k_ hk⟩)); (case aO => exact (by (with_reducible repeat (first | apply Kd.R_alloc | apply Kd.R_drewN | apply Kd.R_drew)); exact Kd.R_mono HO217.out (fun _ hk => ⟨hk.1.1.2, ⟨hk.1.2, hk.2⟩⟩))); (case aS => exact (below_size (by repeat (first | (with_reducible first | exact HB.out | apply below_alloc | apply pw_below_drewN | apply below_drew1) | exact HB.out)))); (case aL => have := LMc17.out; omega); intro v219 w19 ho hb hg hat; rw [← Ny218.out] at ho; have n0_ := Aside0.mk (Kd.R_after (ok := (fun k_ => some k_ ≠ (.slice (some ad214) t210.length co12 : Value).ownBlock ∧ some k_ ≠ (.slice (some ad214) t210.length co12 : Value).ownBlock)) (by (with_reducible repeat (first | apply Kd.R_alloc | apply Kd.R_drewN | apply Kd.R_drew)); exact HO_5.out) hg hat); have n1_ := Aside0.mk (Kd.R_after (ok := (fun k_ => some k_ ≠ (.slice Ao10 t206.length co10 : Value).ownBlock)) (by (with_reducible repeat (first | apply Kd.R_alloc | apply Kd.R_drewN | apply Kd.R_drew)); exact HO_6.out) hg hat); have n2_ := Aside0.mk (Kd.R_after (ok := (fun k_ => some k_ ≠ (.slice Ao10 t206.length co10 : Value).ownBlock)) (by (with_reducible repeat (first | apply Kd.R_alloc | apply Kd.R_drewN | apply Kd.R_drew)); exact HO_33.out) hg hat); have n3_ := Aside0.mk (hb); have n4_ := Aside0.mk (ho); clear HO_5; clear HO_6; clear HO_33; clear HB; clear HO217; have HO_5 := n0_; have HO_6 := n1_; have HO_33 := n2_; have HB := n3_; have HO220 := n4_; clear n0_ n1_ n2_ n3_ n4_; clear ho hb hg hat; obtain ⟨Ao20, co20, eo20⟩ := Kd.R_slice HO220.out; subst eo20))
                go_loopg [44] k1 (fun kq v44 w' => ∃ (x44_2 : Int), v44 = .int .i64 x44_2 ∧ Aside0 (trustquorumlaw01_NodesetMeets.l1 kq t204 t206 t210 (rd t210 x35_1) t210 (t210.length : Int) x35_1 y218 (y218.length : Int) x44_2 = some r) ∧ Aside0 (kq ≤ k1) ∧ Aside0 (Kd.R (Kd.int .i64) 3 w' w.heap.size (fun k_ => some k_ ≠ ((.slice (some ad214) t210.length co12) : Value).ownBlock ∧ some k_ ≠ ((.slice (some ad214) t210.length co12) : Value).ownBlock ∧ some k_ ≠ ((.slice Ao20 y218.length co20) : Value).ownBlock) (.slice Ao10 t206.length co10) t206) ∧ Aside0 (Kd.R (Kd.int .i64) 3 w' w.heap.size (fun k_ => some k_ ≠ ((.slice Ao10 t206.length co10) : Value).ownBlock ∧ some k_ ≠ ((.slice Ao20 y218.length co20) : Value).ownBlock) (.slice (some ad214) t210.length co12) t210) ∧ Aside0 (Kd.R (Kd.int .i64) 3 w' w.heap.size (fun k_ => some k_ ≠ ((.slice Ao10 t206.length co10) : Value).ownBlock ∧ some k_ ≠ ((.slice Ao20 y218.length co20) : Value).ownBlock) (.slice (some ad214) t210.length co12) t210) ∧ Aside0 (Kd.R (Kd.int .i64) 3 w' w.heap.size (fun k_ => some k_ ≠ ((.slice Ao10 t206.length co10) : Value).ownBlock ∧ some k_ ≠ ((.slice (some ad214) t210.length co12) : Value).ownBlock ∧ some k_ ≠ ((.slice (some ad214) t210.length co12) : Value).ownBlock) (.slice Ao20 y218.length co20) y218) ∧ Aside0 (Below w.heap.size w w'))
                case atStart => exact ⟨(0), (by first | rfl | (simp; done) | (simp [*]; done)), H', ⟨Nat.le_refl _⟩, ⟨by (with_reducible repeat (first | apply Kd.R_alloc | apply Kd.R_drewN | apply Kd.R_drew)); exact Kd.R_mono HO_5.out (fun _ hk => ⟨hk.1.1, ⟨hk.1.2, hk.2⟩⟩)⟩, ⟨by (with_reducible repeat (first | apply Kd.R_alloc | apply Kd.R_drewN | apply Kd.R_drew)); exact HO_6.out⟩, ⟨by (with_reducible repeat (first | apply Kd.R_alloc | apply Kd.R_drewN | apply Kd.R_drew)); exact HO_33.out⟩, ⟨by (with_reducible repeat (first | apply Kd.R_alloc | apply Kd.R_drewN | apply Kd.R_drew)); exact HO220.out⟩, ⟨by repeat (first | (with_reducible first | exact HB.out | apply below_alloc | apply pw_below_drewN | apply below_drew1) | exact HB.out)⟩⟩
                case round =>
                  clear H'
                  try clear c1
                  try clear p2
                  try clear q2
                  try clear hx2
                  try clear c5
                  try clear c6
                  try clear c6b0
                  try clear c6b1
                  try clear c12
                  try clear c13
                  try clear c13b0
                  try clear c14
                  try clear c14b0
                  try clear c15
                  try clear c15b0
                  try clear c17
                  try clear c18
                  try clear hx214_0
                  try clear p2
                  try clear p214
                  try clear q214
                  obtain ⟨x44_2, rfl, HA, HK2, HO_5, HO_6, HO_33, HO_42, HB⟩ := hrel
                  cases gk with
                  | zero => exact absurd HA.out (by simp [trustquorumlaw01_NodesetMeets.l1])
                  | succ k2 =>
                    have H := HA.out
                    clear HA
                    simp only [trustquorumlaw01_NodesetMeets.l1] at H
                    by_cases c21 : x44_2 < (y218.length : Int)
                    · rw [if_pos c21] at H
                      have c21b0 : decide (x44_2 < (y218.length : Int)) = true := decide_eq_true c21
                      clear c21
                      by_cases c22 : 0 ≤ x44_2
                      · rw [if_pos c22] at H
                        have c22b0 : decide (0 ≤ x44_2) = true := decide_eq_true c22
                        clear c22
                        by_cases c23 : x44_2 < (y218.length : Int)
                        · rw [if_pos c23] at H
                          have c23b0 : decide (x44_2 < (y218.length : Int)) = true := decide_eq_true c23
                          clear c23
                          have HC24 := Aside0.mk H
                          clear H
                          have p221 : 0 ≤ (x44_2 : Int) := of_decide_eq_true (by first | (with_reducible assumption) | assumption)
                          have q221 : x44_2 < (y218.length : Int) := of_decide_eq_true (by first | (with_reducible assumption) | assumption)
                          obtain ⟨ad221, e221, hx221_0⟩ := Kd.at_int (Kd.R_reads' HO_42.out).2.2 x44_2 p221 q221
                          cases e221
                          replace p221 := eq_true p221
                          replace q221 := eq_true q221
                          go_upto_if 50 with (fail)
                          go_cut [12] (fun v12 wc => ∃ (kq : Nat) (x12_23 : Int), v12 = .int .i64 x12_23 ∧ Aside0 (trustquorumlaw01_NodesetMeets.j2 kq t204 t206 t210 (rd t210 x35_1) (rd y218 x44_2) x12_23 t210 (t210.length : Int) x35_1 y218 (y218.length : Int) x44_2 = some r) ∧ Aside0 (kq ≤ k2) ∧ Aside0 (Kd.R (Kd.int .i64) 3 wc w.heap.size (fun k_ => some k_ ≠ ((.slice (some ad214) t210.length co12) : Value).ownBlock ∧ some k_ ≠ ((.slice (some ad214) t210.length co12) : Value).ownBlock ∧ some k_ ≠ ((.slice (some ad221) y218.length co20) : Value).ownBlock) (.slice Ao10 t206.length co10) t206) ∧ Aside0 (Kd.R (Kd.int .i64) 3 wc w.heap.size (fun k_ => some k_ ≠ ((.slice Ao10 t206.length co10) : Value).ownBlock ∧ some k_ ≠ ((.slice (some ad221) y218.length co20) : Value).ownBlock) (.slice (some ad214) t210.length co12) t210) ∧ Aside0 (Kd.R (Kd.int .i64) 3 wc w.heap.size (fun k_ => some k_ ≠ ((.slice Ao10 t206.length co10) : Value).ownBlock ∧ some k_ ≠ ((.slice (some ad221) y218.length co20) : Value).ownBlock) (.slice (some ad214) t210.length co12) t210) ∧ Aside0 (Kd.R (Kd.int .i64) 3 wc w.heap.size (fun k_ => some k_ ≠ ((.slice Ao10 t206.length co10) : Value).ownBlock ∧ some k_ ≠ ((.slice (some ad214) t210.length co12) : Value).ownBlock ∧ some k_ ≠ ((.slice (some ad214) t210.length co12) : Value).ownBlock) (.slice (some ad221) y218.length co20) y218) ∧ Aside0 (Below w.heap.size w wc))
                          case first =>
                            have H := HC24.out
                            clear HC24
                            by_cases c25 : (rd y218 x44_2) ≥ 0
                            · rw [if_pos c25] at H
                              have c25b0 : decide (0 ≤ (rd y218 x44_2)) = true := decide_eq_true c25
                              clear c25
                              (first | rw [c25b0] | (simp only [i64_w, i32_w]; rw [c25b0]) | skip)
                              by_cases c26 : 0 ≤ (rd y218 x44_2)
                              · rw [if_pos c26] at H
                                have c26b0 := eq_true c26
                                have c26b1 : decide (0 ≤ (rd y218 x44_2)) = true := decide_eq_true c26
                                clear c26
                                obtain ⟨ji27, hji27⟩ : ∃ j_ : Int, (shl .i64 1 (rd y218 x44_2)) = j_ := ⟨_, rfl⟩
                                replace H : (trustquorumlaw01_NodesetMeets.j2 k2 t204 t206 t210 (rd t210 x35_1) (rd y218 x44_2) (wrap64 ((rd t210 x35_1) - (ji27))) t210 (t210.length : Int) x35_1 y218 (y218.length : Int) x44_2) = some r := by first | (rw [hji27] at H; exact H) | (simp only [hji27] at H ⊢; exact H)
                                have hji27_ : (IntKind.i64.wrap (1 * 2 ^ min (rd y218 x44_2).toNat 64)) = ji27 := hji27
                                have hji27z : (rd y218 x44_2) ≤ 64 → (IntKind.i64.wrap (1 * 2 ^ (rd y218 x44_2).toNat)) = ji27 := shl_small hji27
                                have hji27u : (IntKind.i64.wrap (2 ^ min (rd y218 x44_2).toNat 64)) = ji27 := by have h_ := hji27_; rw [Int.one_mul] at h_; exact h_
                                have hji27v : (rd y218 x44_2) ≤ 64 → (IntKind.i64.wrap (2 ^ (rd y218 x44_2).toNat)) = ji27 := fun hle_ => by have h_ := hji27z hle_; rw [Int.one_mul] at h_; exact h_
                                have hji27y : (wrap64 (1 * 2 ^ min (rd y218 x44_2).toNat 64)) = ji27 := (i64_w _).symm.trans hji27_
                                have hji27x : (rd y218 x44_2) ≤ 64 → (wrap64 (1 * 2 ^ (rd y218 x44_2).toNat)) = ji27 := fun h_ => (i64_w _).symm.trans (hji27z h_)
                                have H' := Aside0.mk H
                                clear H
                                go_wp2
                                go_meet
                                case rel => exact ⟨_, (wrap64 ((rd t210 x35_1) - (ji27))), (by first | rfl | (simp; done) | (simp only [← hji27] <;> (first | rfl | simp)) | (simp [*]; done)), H', ⟨by have := HK1.out; have := HK2.out; first | omega | exact Nat.le_refl _⟩, ⟨by (with_reducible repeat (first | apply Kd.R_alloc | apply Kd.R_drewN | apply Kd.R_drew)); exact HO_5.out⟩, ⟨by (with_reducible repeat (first | apply Kd.R_alloc | apply Kd.R_drewN | apply Kd.R_drew)); exact HO_6.out⟩, ⟨by (with_reducible repeat (first | apply Kd.R_alloc | apply Kd.R_drewN | apply Kd.R_drew)); exact HO_33.out⟩, ⟨by (with_reducible repeat (first | apply Kd.R_alloc | apply Kd.R_drewN | apply Kd.R_drew)); exact HO_42.out⟩, ⟨by repeat (first | (with_reducible first | exact HB.out | apply below_alloc | apply pw_below_drewN | apply below_drew1) | exact HB.out)⟩⟩
                              · rw [if_neg c26] at H
                                exact absurd H (by simp)
                            · rw [if_neg c25] at H
                              have c25b0 : decide (0 ≤ (rd y218 x44_2)) = false := decide_eq_false c25
                              clear c25
                              (first | rw [c25b0] | (simp only [i64_w, i32_w]; rw [c25b0]) | skip)
                              have H' := Aside0.mk H
                              clear H
                              go_wp2
                              go_meet
                              case rel => exact ⟨_, ((rd t210 x35_1)), (by first | rfl | (simp; done) | (simp [*]; done)), H', ⟨by have := HK1.out; have := HK2.out; first | omega | exact Nat.le_refl _⟩, ⟨by (with_reducible repeat (first | apply Kd.R_alloc | apply Kd.R_drewN | apply Kd.R_drew)); exact HO_5.out⟩, ⟨by (with_reducible repeat (first | apply Kd.R_alloc | apply Kd.R_drewN | apply Kd.R_drew)); exact HO_6.out⟩, ⟨by (with_reducible repeat (first | apply Kd.R_alloc | apply Kd.R_drewN | apply Kd.R_drew)); exact HO_33.out⟩, ⟨by (with_reducible repeat (first | apply Kd.R_alloc | apply Kd.R_drewN | apply Kd.R_drew)); exact HO_42.out⟩, ⟨by repeat (first | (with_reducible first | exact HB.out | apply below_alloc | apply pw_below_drewN | apply below_drew1) | exact HB.out)⟩⟩
                          case rest =>
                            clear HC24
                            try clear c1
                            try clear c2
                            try clear p2
                            try clear q2
                            try clear hx2
                            try clear c5
                            try clear c6
                            try clear c6b0
                            try clear c6b1
                            try clear p6
                            try clear c12
                            try clear c13
                            try clear c13b0
                            try clear c14
                            try clear c14b0
                            try clear c15
                            try clear c15b0
                            try clear c17
                            try clear c18
                            try clear c21
                            try clear c21b0
                            try clear p21
                            try clear q21
                            try clear hx21
                            try clear c22
                            try clear c22b0
                            try clear p22
                            try clear q22
                            try clear hx22
                            try clear c23
                            try clear c23b0
                            try clear c25
                            try clear c25b0
                            try clear c26
                            try clear c26b0
                            try clear c26b1
                            try clear hx214_0
                            try clear hx221_0
                            try clear p2
                            try clear p214
                            try clear p221
                            try clear q2
                            try clear q214
                            try clear q221
                            obtain ⟨kq, x12_23, rfl, HA, HJ23, HO_5, HO_6, HO_33, HO_42, HB⟩ := hcut
                            cases kq with
                            | zero => exact absurd HA.out (by simp [trustquorumlaw01_NodesetMeets.j2])
                            | succ kj23 =>
                              have H := HA.out
                              clear HA
                              simp only [trustquorumlaw01_NodesetMeets.j2] at H
                              have H' := Aside0.mk H
                              clear H
                              go_wp2
                              go_loopg [13, 57] kj23 (fun kq v13 v57 w' => ∃ (x13_4 : Bool) (x57_4 : Int), v13 = .bool x13_4 ∧ v57 = .int .i64 x57_4 ∧ Aside0 (trustquorumlaw01_NodesetMeets.l2 kq t204 t206 t210 (rd t210 x35_1) (rd y218 x44_2) x12_23 x13_4 t210 (t210.length : Int) x35_1 y218 (y218.length : Int) x44_2 t206 (t206.length : Int) x57_4 = some r) ∧ Aside0 (kq ≤ kj23) ∧ Aside0 (Kd.R (Kd.int .i64) 3 w' w.heap.size (fun k_ => some k_ ≠ ((.slice (some ad214) t210.length co12) : Value).ownBlock ∧ some k_ ≠ ((.slice (some ad214) t210.length co12) : Value).ownBlock ∧ some k_ ≠ ((.slice (some ad221) y218.length co20) : Value).ownBlock) (.slice Ao10 t206.length co10) t206) ∧ Aside0 (Kd.R (Kd.int .i64) 3 w' w.heap.size (fun k_ => some k_ ≠ ((.slice Ao10 t206.length co10) : Value).ownBlock ∧ some k_ ≠ ((.slice (some ad221) y218.length co20) : Value).ownBlock ∧ some k_ ≠ ((.slice Ao10 t206.length co10) : Value).ownBlock) (.slice (some ad214) t210.length co12) t210) ∧ Aside0 (Kd.R (Kd.int .i64) 3 w' w.heap.size (fun k_ => some k_ ≠ ((.slice Ao10 t206.length co10) : Value).ownBlock ∧ some k_ ≠ ((.slice (some ad221) y218.length co20) : Value).ownBlock ∧ some k_ ≠ ((.slice Ao10 t206.length co10) : Value).ownBlock) (.slice (some ad214) t210.length co12) t210) ∧ Aside0 (Kd.R (Kd.int .i64) 3 w' w.heap.size (fun k_ => some k_ ≠ ((.slice Ao10 t206.length co10) : Value).ownBlock ∧ some k_ ≠ ((.slice (some ad214) t210.length co12) : Value).ownBlock ∧ some k_ ≠ ((.slice (some ad214) t210.length co12) : Value).ownBlock ∧ some k_ ≠ ((.slice Ao10 t206.length co10) : Value).ownBlock) (.slice (some ad221) y218.length co20) y218) ∧ Aside0 (Kd.R (Kd.int .i64) 3 w' w.heap.size (fun k_ => some k_ ≠ ((.slice (some ad214) t210.length co12) : Value).ownBlock ∧ some k_ ≠ ((.slice (some ad214) t210.length co12) : Value).ownBlock ∧ some k_ ≠ ((.slice (some ad221) y218.length co20) : Value).ownBlock) (.slice Ao10 t206.length co10) t206) ∧ Aside0 (Below w.heap.size w w'))
                              case atStart => exact ⟨(true), (0), (by first | rfl | (simp; done) | (simp [*]; done)), (by first | rfl | (simp; done) | (simp [*]; done)), H', ⟨Nat.le_refl _⟩, ⟨by (with_reducible repeat (first | apply Kd.R_alloc | apply Kd.R_drewN | apply Kd.R_drew)); exact HO_5.out⟩, ⟨by (with_reducible repeat (first | apply Kd.R_alloc | apply Kd.R_drewN | apply Kd.R_drew)); exact Kd.R_mono HO_6.out (fun _ hk => ⟨hk.1, ⟨hk.2, hk.1⟩⟩)⟩, ⟨by (with_reducible repeat (first | apply Kd.R_alloc | apply Kd.R_drewN | apply Kd.R_drew)); exact Kd.R_mono HO_33.out (fun _ hk => ⟨hk.1, ⟨hk.2, hk.1⟩⟩)⟩, ⟨by (with_reducible repeat (first | apply Kd.R_alloc | apply Kd.R_drewN | apply Kd.R_drew)); exact Kd.R_mono HO_42.out (fun _ hk => ⟨hk.1, ⟨hk.2.1, ⟨hk.2.2, hk.1⟩⟩⟩)⟩, ⟨by (with_reducible repeat (first | apply Kd.R_alloc | apply Kd.R_drewN | apply Kd.R_drew)); exact HO_5.out⟩, ⟨by repeat (first | (with_reducible first | exact HB.out | apply below_alloc | apply pw_below_drewN | apply below_drew1) | exact HB.out)⟩⟩
                              case round =>
                                clear H'
                                try clear c1
                                try clear c2
                                try clear p2
                                try clear q2
                                try clear hx2
                                try clear c5
                                try clear c6
                                try clear c6b0
                                try clear c6b1
                                try clear p6
                                try clear c12
                                try clear c13
                                try clear c13b0
                                try clear c14
                                try clear c14b0
                                try clear c15
                                try clear c15b0
                                try clear c17
                                try clear c18
                                try clear c21
                                try clear c21b0
                                try clear p21
                                try clear q21
                                try clear hx21
                                try clear c22
                                try clear c22b0
                                try clear p22
                                try clear q22
                                try clear hx22
                                try clear c23
                                try clear c23b0
                                try clear c25
                                try clear c25b0
                                try clear c26
                                try clear c26b0
                                try clear c26b1
                                try clear hx214_0
                                try clear hx221_0
                                try clear p2
                                try clear p21
                                try clear p214
                                try clear p22
                                try clear p221
                                try clear p6
                                try clear q2
                                try clear q21
                                try clear q214
                                try clear q22
                                try clear q221
                                obtain ⟨x13_4, x57_4, rfl, rfl, HA, HK4, HO_5, HO_6, HO_33, HO_42, HO_55, HB⟩ := hrel
                                cases gk with
                                | zero => exact absurd HA.out (by simp [trustquorumlaw01_NodesetMeets.l2])
                                | succ k4 =>
                                  have H := HA.out
                                  clear HA
                                  simp only [trustquorumlaw01_NodesetMeets.l2] at H
                                  by_cases c28 : x57_4 < (t206.length : Int)
                                  · rw [if_pos c28] at H
                                    have c28b0 : decide (x57_4 < (t206.length : Int)) = true := decide_eq_true c28
                                    clear c28
                                    by_cases c29 : 0 ≤ x57_4
                                    · rw [if_pos c29] at H
                                      have c29b0 : decide (0 ≤ x57_4) = true := decide_eq_true c29
                                      clear c29
                                      by_cases c30 : x57_4 < (t206.length : Int)
                                      · rw [if_pos c30] at H
                                        have c30b0 : decide (x57_4 < (t206.length : Int)) = true := decide_eq_true c30
                                        clear c30
                                        by_cases c31 : x13_4 = true
                                        · subst c31
                                          have H1 : (trustquorumlaw01_NodesetMeets.l2 k4 t204 t206 t210 (rd t210 x35_1) (rd y218 x44_2) x12_23 ((Go.bits .and .i64 x12_23 (rd t206 x57_4)) != 0) t210 (t210.length : Int) x35_1 y218 (y218.length : Int) x44_2 t206 (t206.length : Int) (wrap64 (x57_4 + 1))) = some r := by rw [if_pos rfl] at H; exact H
                                          clear H
                                          have H := H1
                                          clear H1
                                          have H' := Aside0.mk H
                                          clear H
                                          have p222 : 0 ≤ (x57_4 : Int) := of_decide_eq_true (by first | (with_reducible assumption) | assumption)
                                          have q222 : x57_4 < (t206.length : Int) := of_decide_eq_true (by first | (with_reducible assumption) | assumption)
                                          obtain ⟨ad222, e222, hx222_0⟩ := Kd.at_int (Kd.R_reads' HO_55.out).2.2 x57_4 p222 q222
                                          cases e222
                                          replace p222 := eq_true p222
                                          replace q222 := eq_true q222
                                          go_wp2
                                          go_roundg k4
                                          case measure => have := HK1.out; have := HK2.out; have := HJ23.out; have := HK4.out; omega
                                          case rel => exact ⟨(((Go.bits .and .i64 x12_23 (rd t206 x57_4)) != 0)), (wrap64 (x57_4 + 1)), (by first | rfl | (simp; done) | (simp [*]; done)), (by first | rfl | (simp; done) | (simp [*]; done)), H', ⟨by have := HK1.out; have := HK2.out; have := HJ23.out; have := HK4.out; omega⟩, ⟨by (with_reducible repeat (first | apply Kd.R_alloc | apply Kd.R_drewN | apply Kd.R_drew)); exact HO_5.out⟩, ⟨by (with_reducible repeat (first | apply Kd.R_alloc | apply Kd.R_drewN | apply Kd.R_drew)); exact HO_6.out⟩, ⟨by (with_reducible repeat (first | apply Kd.R_alloc | apply Kd.R_drewN | apply Kd.R_drew)); exact HO_33.out⟩, ⟨by (with_reducible repeat (first | apply Kd.R_alloc | apply Kd.R_drewN | apply Kd.R_drew)); exact HO_42.out⟩, ⟨by (with_reducible repeat (first | apply Kd.R_alloc | apply Kd.R_drewN | apply Kd.R_drew)); exact HO_55.out⟩, ⟨by repeat (first | (with_reducible first | exact HB.out | apply below_alloc | apply pw_below_drewN | apply below_drew1) | exact HB.out)⟩⟩
                                        · replace c31 := Bool.eq_false_iff.mpr c31
                                          subst c31
                                          have H1 : (trustquorumlaw01_NodesetMeets.l2 k4 t204 t206 t210 (rd t210 x35_1) (rd y218 x44_2) x12_23 false t210 (t210.length : Int) x35_1 y218 (y218.length : Int) x44_2 t206 (t206.length : Int) (wrap64 (x57_4 + 1))) = some r := by rw [if_neg (show ¬ (false = true) by decide)] at H; exact H
                                          clear H
                                          have H := H1
                                          clear H1
                                          have H' := Aside0.mk H
                                          clear H
                                          have p222 : 0 ≤ (x57_4 : Int) := of_decide_eq_true (by first | (with_reducible assumption) | assumption)
                                          have q222 : x57_4 < (t206.length : Int) := of_decide_eq_true (by first | (with_reducible assumption) | assumption)
                                          obtain ⟨ad222, e222, hx222_0⟩ := Kd.at_int (Kd.R_reads' HO_55.out).2.2 x57_4 p222 q222
                                          cases e222
                                          replace p222 := eq_true p222
                                          replace q222 := eq_true q222
                                          go_wp2
                                          go_roundg k4
                                          case measure => have := HK1.out; have := HK2.out; have := HJ23.out; have := HK4.out; omega
                                          case rel => exact ⟨(false), (wrap64 (x57_4 + 1)), (by first | rfl | (simp; done) | (simp [*]; done)), (by first | rfl | (simp; done) | (simp [*]; done)), H', ⟨by have := HK1.out; have := HK2.out; have := HJ23.out; have := HK4.out; omega⟩, ⟨by (with_reducible repeat (first | apply Kd.R_alloc | apply Kd.R_drewN | apply Kd.R_drew)); exact HO_5.out⟩, ⟨by (with_reducible repeat (first | apply Kd.R_alloc | apply Kd.R_drewN | apply Kd.R_drew)); exact HO_6.out⟩, ⟨by (with_reducible repeat (first | apply Kd.R_alloc | apply Kd.R_drewN | apply Kd.R_drew)); exact HO_33.out⟩, ⟨by (with_reducible repeat (first | apply Kd.R_alloc | apply Kd.R_drewN | apply Kd.R_drew)); exact HO_42.out⟩, ⟨by (with_reducible repeat (first | apply Kd.R_alloc | apply Kd.R_drewN | apply Kd.R_drew)); exact HO_55.out⟩, ⟨by repeat (first | (with_reducible first | exact HB.out | apply below_alloc | apply pw_below_drewN | apply below_drew1) | exact HB.out)⟩⟩
                                      · rw [if_neg c30] at H
                                        exact absurd H (by simp)
                                    · rw [if_neg c29] at H
                                      exact absurd H (by simp)
                                  · rw [if_neg c28] at H
                                    have c28b0 : decide (x57_4 < (t206.length : Int)) = false := decide_eq_false c28
                                    clear c28
                                    by_cases c32 : (x13_4 != (decide ((rd y218 x44_2) < 0))) = true
                                    · rw [if_pos c32] at H
                                      have c32b0 : (x13_4 != (decide ((rd y218 x44_2) < 0))) = true := c32
                                      (try (have c32b1 : decide (x13_4 = (decide ((rd y218 x44_2) < 0))) = false := by simpa using c32))
                                      (try (have c32b2 : (x13_4 == (decide ((rd y218 x44_2) < 0))) = false := by simpa using c32))
                                      (try (have c32b3 : ¬ (x13_4 = (decide ((rd y218 x44_2) < 0))) := by simpa using c32))
                                      clear c32
                                      obtain rfl := Option.some.inj H
                                      go_wp2
                                      go_ret
                                      exact ⟨by first | rfl | (simp [errW_none, errW_some] <;> rfl) | (simp [*, errW_none, errW_some] <;> rfl), by repeat (first | (with_reducible first | exact HB.out | apply below_alloc | apply pw_below_drewN | apply below_drew1) | exact HB.out)⟩
                                    · rw [if_neg c32] at H
                                      have c32b0 : (x13_4 != (decide ((rd y218 x44_2) < 0))) = false := by simpa using c32
                                      (try (have c32b1 : decide (x13_4 = (decide ((rd y218 x44_2) < 0))) = true := by simpa using c32))
                                      (try (have c32b2 : (x13_4 == (decide ((rd y218 x44_2) < 0))) = true := by simpa using c32))
                                      clear c32
                                      have H' := Aside0.mk H
                                      clear H
                                      go_wp2
                                      go_roundg k4
                                      case measure => have := HK1.out; have := HK2.out; have := HJ23.out; have := HK4.out; omega
                                      case rel => exact ⟨(wrap64 (x44_2 + 1)), (by first | rfl | (simp; done) | (simp [*]; done)), H', ⟨by have := HK1.out; have := HK2.out; have := HJ23.out; have := HK4.out; omega⟩, ⟨by (with_reducible repeat (first | apply Kd.R_alloc | apply Kd.R_drewN | apply Kd.R_drew)); exact HO_5.out⟩, ⟨by (with_reducible repeat (first | apply Kd.R_alloc | apply Kd.R_drewN | apply Kd.R_drew)); exact Kd.R_mono HO_6.out (fun _ hk => ⟨hk.1, hk.2.1⟩)⟩, ⟨by (with_reducible repeat (first | apply Kd.R_alloc | apply Kd.R_drewN | apply Kd.R_drew)); exact Kd.R_mono HO_33.out (fun _ hk => ⟨hk.1, hk.2.1⟩)⟩, ⟨by (with_reducible repeat (first | apply Kd.R_alloc | apply Kd.R_drewN | apply Kd.R_drew)); exact Kd.R_mono HO_42.out (fun _ hk => ⟨hk.1, ⟨hk.2.1, hk.2.2.1⟩⟩)⟩, ⟨by repeat (first | (with_reducible first | exact HB.out | apply below_alloc | apply pw_below_drewN | apply below_drew1) | exact HB.out)⟩⟩
                        · rw [if_neg c23] at H
                          exact absurd H (by simp)
                      · rw [if_neg c22] at H
                        exact absurd H (by simp)
                    · rw [if_neg c21] at H
                      have c21b0 : decide (x44_2 < (y218.length : Int)) = false := decide_eq_false c21
                      clear c21
                      have H' := Aside0.mk H
                      clear H
                      go_wp2
                      go_roundg k2
                      case measure => have := HK1.out; have := HK2.out; omega
                      case rel => exact ⟨(wrap64 (x35_1 + 1)), (by first | rfl | (simp; done) | (simp [*]; done)), H', ⟨by have := HK1.out; have := HK2.out; omega⟩, ⟨by (with_reducible repeat (first | apply Kd.R_alloc | apply Kd.R_drewN | apply Kd.R_drew)); exact Kd.R_mono HO_5.out (fun _ hk => ⟨hk.1, hk.2.1⟩)⟩, ⟨by (with_reducible repeat (first | apply Kd.R_alloc | apply Kd.R_drewN | apply Kd.R_drew)); exact Kd.R_mono HO_6.out (fun _ hk => hk.1)⟩, ⟨by (with_reducible repeat (first | apply Kd.R_alloc | apply Kd.R_drewN | apply Kd.R_drew)); exact Kd.R_mono HO_33.out (fun _ hk => hk.1)⟩, ⟨by repeat (first | (with_reducible first | exact HB.out | apply below_alloc | apply pw_below_drewN | apply below_drew1) | exact HB.out)⟩⟩
              · rw [if_neg c17] at H
                exact absurd H (by simp)
            · rw [if_neg c15] at H
              exact absurd H (by simp)
          · rw [if_neg c14] at H
            exact absurd H (by simp)
        · rw [if_neg c13] at H
          have c13b0 : decide (x35_1 < (t210.length : Int)) = false := decide_eq_false c13
          clear c13
          replace H := Option.bind_eq_some_iff.mp H
          obtain ⟨⟨t223, t224⟩, A330, H⟩ := H
          replace H : (if t224 = 0 then ((nodeset_Least.f t206).bind fun t227 => ((trustquorummake_Ints.f k1 t223 t227).bind fun t230 => (if t230 = true then ((trustquorumlaw01_awake.f k1).bind fun t231 => (some t231)) else (some false)))) else (some false)) = some r := H
          have A33 := Aside0.mk A330
          clear A330
          by_cases c34 : t224 = 0
          · rw [if_pos c34] at H
            have c34b0 : (t224 == 0) = true := beq_iff_eq.mpr c34
            have c34b1 : (t224 != 0) = false := bne_eq_false_iff_eq.mpr c34
            clear c34
            replace H := Option.bind_eq_some_iff.mp H
            obtain ⟨t227, A350, H⟩ := H
            replace H : ((trustquorummake_Ints.f k1 t223 t227).bind fun t230 => (if t230 = true then ((trustquorumlaw01_awake.f k1).bind fun t231 => (some t231)) else (some false))) = some r := H
            have A35 := Aside0.mk A350
            clear A350
            replace H := Option.bind_eq_some_iff.mp H
            obtain ⟨t230, A360, H⟩ := H
            replace H : (if t230 = true then ((trustquorumlaw01_awake.f k1).bind fun t231 => (some t231)) else (some false)) = some r := H
            have A36 := Aside0.mk A360
            clear A360
            by_cases c37 : t230 = true
            · subst c37
              have H1 : ((trustquorumlaw01_awake.f k1).bind fun t231 => (some t231)) = some r := by rw [if_pos rfl] at H; exact H
              clear H
              have H := H1
              clear H1
              replace H := Option.bind_eq_some_iff.mp H
              obtain ⟨t231, A380, H⟩ := H
              replace H : (some t231) = some r := H
              have A38 := Aside0.mk A380
              clear A380
              obtain rfl := Option.some.inj H
              go_wp2_with (first | ((with_reducible refine gate_callee (f := 17) rfl ?_); refine goesL_ (some 78) rfl rfl Tryd.func17 (by kernel_rfl) rfl #[.slice Ao12 t210.length co12, .int .i64 t204] rfl (by (try simp only [List.map_toArray, List.map_cons, List.map_nil]); first | done | rfl | (simp only [List.length_drop, List.length_take]; rfl)) ?_; (with_reducible refine (nodeset_Meeting.calls _ _ t210 t204 t223 t224 _ ?side1 ?side2 A33.out).mono ?_); (case side1 => repeat (first | exact (Kd.R_reads' HO_6.out).2.2 | (with_reducible refine Kd.C_alloc ?_ _) | (with_reducible refine Kd.C_drewN ?_ _) | (with_reducible refine Kd.C_drew ?_))); (case side2 => exact (Kd.R_reads' HO_6.out).2.1); rintro e w39 ⟨v225, rfl, ho0, hb⟩; refine ⟨_, rfl, ?_⟩; have n0_ := Aside0.mk (Kd.R_elder' (by (with_reducible repeat (first | apply Kd.R_alloc | apply Kd.R_drewN | apply Kd.R_drew)); exact HO_5.out) (Kd.R_base ho0) hb); have n1_ := Aside0.mk (Kd.R_elder' (by (with_reducible repeat (first | apply Kd.R_alloc | apply Kd.R_drewN | apply Kd.R_drew)); exact HO_6.out) (Kd.R_base ho0) hb); have n2_ := Aside0.mk (Kd.R_elder' (by (with_reducible repeat (first | apply Kd.R_alloc | apply Kd.R_drewN | apply Kd.R_drew)); exact HO_33.out) (Kd.R_base ho0) hb); have n3_ := Aside0.mk (Kd.R_lower (Kd.R_new' (Kd.R_new' (Kd.R_new' ho0 (Kd.R_lt (by (with_reducible repeat (first | apply Kd.R_alloc | apply Kd.R_drewN | apply Kd.R_drew)); exact HO_5.out))) (Kd.R_lt (by (with_reducible repeat (first | apply Kd.R_alloc | apply Kd.R_drewN | apply Kd.R_drew)); exact HO_6.out))) (Kd.R_lt (by (with_reducible repeat (first | apply Kd.R_alloc | apply Kd.R_drewN | apply Kd.R_drew)); exact HO_33.out))) (below_size (by repeat (first | (with_reducible first | exact HB.out | apply below_alloc | apply pw_below_drewN | apply below_drew1) | exact HB.out)))); have n4_ := Aside0.mk (below_step (by repeat (first | (with_reducible first | exact HB.out | apply below_alloc | apply pw_below_drewN | apply below_drew1) | exact HB.out)) hb); clear HO_5; clear HO_6; clear HO_33; clear HB; have HO_5 := n0_; have HO_6 := n1_; have HO_33 := n2_; have HO226 := n3_; have HB := n4_; clear n0_ n1_ n2_ n3_ n4_; (try clear hb); (try clear hb2); (try clear hk); (try clear hi); (try clear ho0)) | (go_at_call 15; (with_reducible refine (nodeset_Least.calls _ _ t206 t227 _ ?side1 ?side2 A35.out).mono ?_); (case side1 => repeat (first | exact (Kd.R_reads' HO_5.out).2.2 | (with_reducible refine Kd.C_alloc ?_ _) | (with_reducible refine Kd.C_drewN ?_ _) | (with_reducible refine Kd.C_drew ?_))); (case side2 => exact (Kd.R_reads' HO_5.out).2.1); rintro e w40 ⟨v228, rfl, ho0, hb⟩; have n0_ := Aside0.mk (Kd.R_elder' (by (with_reducible repeat (first | apply Kd.R_alloc | apply Kd.R_drewN | apply Kd.R_drew)); exact HO_5.out) (Kd.R_base ho0) hb); have n1_ := Aside0.mk (Kd.R_elder' (by (with_reducible repeat (first | apply Kd.R_alloc | apply Kd.R_drewN | apply Kd.R_drew)); exact HO_6.out) (Kd.R_base ho0) hb); have n2_ := Aside0.mk (Kd.R_elder' (by (with_reducible repeat (first | apply Kd.R_alloc | apply Kd.R_drewN | apply Kd.R_drew)); exact HO_33.out) (Kd.R_base ho0) hb); have n3_ := Aside0.mk (Kd.R_elder' (by (with_reducible repeat (first | apply Kd.R_alloc | apply Kd.R_drewN | apply Kd.R_drew)); exact HO226.out) (Kd.R_base ho0) hb); have n4_ := Aside0.mk (Kd.R_lower (Kd.R_new' (Kd.R_new' (Kd.R_new' (Kd.R_new' ho0 (Kd.R_lt (by (with_reducible repeat (first | apply Kd.R_alloc | apply Kd.R_drewN | apply Kd.R_drew)); exact HO_5.out))) (Kd.R_lt (by (with_reducible repeat (first | apply Kd.R_alloc | apply Kd.R_drewN | apply Kd.R_drew)); exact HO_6.out))) (Kd.R_lt (by (with_reducible repeat (first | apply Kd.R_alloc | apply Kd.R_drewN | apply Kd.R_drew)); exact HO_33.out))) (Kd.R_lt (by (with_reducible repeat (first | apply Kd.R_alloc | apply Kd.R_drewN | apply Kd.R_drew)); exact HO226.out))) (below_size (by repeat (first | (with_reducible first | exact HB.out | apply below_alloc | apply pw_below_drewN | apply below_drew1) | exact HB.out)))); have n5_ := Aside0.mk (below_step (by repeat (first | (with_reducible first | exact HB.out | apply below_alloc | apply pw_below_drewN | apply below_drew1) | exact HB.out)) hb); clear HO_5; clear HO_6; clear HO_33; clear HO226; clear HB; have HO_5 := n0_; have HO_6 := n1_; have HO_33 := n2_; have HO226 := n3_; have HO229 := n4_; have HB := n5_; clear n0_ n1_ n2_ n3_ n4_ n5_; (try clear hb); (try clear hb2); (try clear hk); (try clear hi); (try clear ho0); obtain ⟨Ao41, co41, eo41⟩ := Kd.R_slice HO226.out; subst eo41; obtain ⟨Ao42, co42, eo42⟩ := Kd.R_slice HO229.out; subst eo42) | (go_at_call 19; (with_reducible refine (trustquorummake_Ints.calls k1 _ _ t223 _ _ t227 true _ ?side1 ?side2 ?side3 ?side4 A36.out).mono ?_); (case side1 => repeat (first | exact (Kd.R_reads' HO226.out).2.2 | (with_reducible refine Kd.C_alloc ?_ _) | (with_reducible refine Kd.C_drewN ?_ _) | (with_reducible refine Kd.C_drew ?_))); (case side2 => exact (Kd.R_reads' HO226.out).2.1); (case side3 => repeat (first | exact (Kd.R_reads' HO229.out).2.2 | (with_reducible refine Kd.C_alloc ?_ _) | (with_reducible refine Kd.C_drewN ?_ _) | (with_reducible refine Kd.C_drew ?_))); (case side4 => exact (Kd.R_reads' HO229.out).2.1); rintro e w' ⟨rfl, ⟨nd, rfl⟩⟩) | (go_at_call 11; (with_reducible refine (trustquorumlaw01_awake.calls k1  t231 _ A38.out).mono ?_); rintro e w43 ⟨rfl, hb⟩; have n0_ := Aside0.mk (Kd.R_below (by (with_reducible repeat (first | apply Kd.R_alloc | apply Kd.R_drewN | apply Kd.R_drew)); exact HO_5.out) hb); have n1_ := Aside0.mk (Kd.R_below (by (with_reducible repeat (first | apply Kd.R_alloc | apply Kd.R_drewN | apply Kd.R_drew)); exact HO_6.out) hb); have n2_ := Aside0.mk (Kd.R_below (by (with_reducible repeat (first | apply Kd.R_alloc | apply Kd.R_drewN | apply Kd.R_drew)); exact HO_33.out) hb); have n3_ := Aside0.mk (Kd.R_below (by (with_reducible repeat (first | apply Kd.R_alloc | apply Kd.R_drewN | apply Kd.R_drew)); exact HO226.out) hb); have n4_ := Aside0.mk (Kd.R_below (by (with_reducible repeat (first | apply Kd.R_alloc | apply Kd.R_drewN | apply Kd.R_drew)); exact HO229.out) hb); have n5_ := Aside0.mk (below_step (by repeat (first | (with_reducible first | exact HB.out | apply below_alloc | apply pw_below_drewN | apply below_drew1) | exact HB.out)) hb); clear HO_5; clear HO_6; clear HO_33; clear HO226; clear HO229; clear HB; have HO_5 := n0_; have HO_6 := n1_; have HO_33 := n2_; have HO226 := n3_; have HO229 := n4_; have HB := n5_; clear n0_ n1_ n2_ n3_ n4_ n5_; (try clear hb); (try clear hb2); (try clear hk); (try clear hi)))
              go_ret
              exact ⟨by first | rfl | (simp [errW_none, errW_some] <;> rfl) | (simp [*, errW_none, errW_some] <;> rfl), by repeat (first | (with_reducible first | exact HB.out | apply below_alloc | apply pw_below_drewN | apply below_drew1) | exact HB.out)⟩
            · replace c37 := Bool.eq_false_iff.mpr c37
              subst c37
              have H1 : (some false) = some r := by rw [if_neg (show ¬ (false = true) by decide)] at H; exact H
              clear H
              have H := H1
              clear H1
              obtain rfl := Option.some.inj H
              go_wp2_with (first | ((with_reducible refine gate_callee (f := 17) rfl ?_); refine goesL_ (some 78) rfl rfl Tryd.func17 (by kernel_rfl) rfl #[.slice Ao12 t210.length co12, .int .i64 t204] rfl (by (try simp only [List.map_toArray, List.map_cons, List.map_nil]); first | done | rfl | (simp only [List.length_drop, List.length_take]; rfl)) ?_; (with_reducible refine (nodeset_Meeting.calls _ _ t210 t204 t223 t224 _ ?side1 ?side2 A33.out).mono ?_); (case side1 => repeat (first | exact (Kd.R_reads' HO_6.out).2.2 | (with_reducible refine Kd.C_alloc ?_ _) | (with_reducible refine Kd.C_drewN ?_ _) | (with_reducible refine Kd.C_drew ?_))); (case side2 => exact (Kd.R_reads' HO_6.out).2.1); rintro e w44 ⟨v225, rfl, ho0, hb⟩; refine ⟨_, rfl, ?_⟩; have n0_ := Aside0.mk (Kd.R_elder' (by (with_reducible repeat (first | apply Kd.R_alloc | apply Kd.R_drewN | apply Kd.R_drew)); exact HO_5.out) (Kd.R_base ho0) hb); have n1_ := Aside0.mk (Kd.R_elder' (by (with_reducible repeat (first | apply Kd.R_alloc | apply Kd.R_drewN | apply Kd.R_drew)); exact HO_6.out) (Kd.R_base ho0) hb); have n2_ := Aside0.mk (Kd.R_elder' (by (with_reducible repeat (first | apply Kd.R_alloc | apply Kd.R_drewN | apply Kd.R_drew)); exact HO_33.out) (Kd.R_base ho0) hb); have n3_ := Aside0.mk (Kd.R_lower (Kd.R_new' (Kd.R_new' (Kd.R_new' ho0 (Kd.R_lt (by (with_reducible repeat (first | apply Kd.R_alloc | apply Kd.R_drewN | apply Kd.R_drew)); exact HO_5.out))) (Kd.R_lt (by (with_reducible repeat (first | apply Kd.R_alloc | apply Kd.R_drewN | apply Kd.R_drew)); exact HO_6.out))) (Kd.R_lt (by (with_reducible repeat (first | apply Kd.R_alloc | apply Kd.R_drewN | apply Kd.R_drew)); exact HO_33.out))) (below_size (by repeat (first | (with_reducible first | exact HB.out | apply below_alloc | apply pw_below_drewN | apply below_drew1) | exact HB.out)))); have n4_ := Aside0.mk (below_step (by repeat (first | (with_reducible first | exact HB.out | apply below_alloc | apply pw_below_drewN | apply below_drew1) | exact HB.out)) hb); clear HO_5; clear HO_6; clear HO_33; clear HB; have HO_5 := n0_; have HO_6 := n1_; have HO_33 := n2_; have HO226 := n3_; have HB := n4_; clear n0_ n1_ n2_ n3_ n4_; (try clear hb); (try clear hb2); (try clear hk); (try clear hi); (try clear ho0)) | (go_at_call 15; (with_reducible refine (nodeset_Least.calls _ _ t206 t227 _ ?side1 ?side2 A35.out).mono ?_); (case side1 => repeat (first | exact (Kd.R_reads' HO_5.out).2.2 | (with_reducible refine Kd.C_alloc ?_ _) | (with_reducible refine Kd.C_drewN ?_ _) | (with_reducible refine Kd.C_drew ?_))); (case side2 => exact (Kd.R_reads' HO_5.out).2.1); rintro e w45 ⟨v228, rfl, ho0, hb⟩; have n0_ := Aside0.mk (Kd.R_elder' (by (with_reducible repeat (first | apply Kd.R_alloc | apply Kd.R_drewN | apply Kd.R_drew)); exact HO_5.out) (Kd.R_base ho0) hb); have n1_ := Aside0.mk (Kd.R_elder' (by (with_reducible repeat (first | apply Kd.R_alloc | apply Kd.R_drewN | apply Kd.R_drew)); exact HO_6.out) (Kd.R_base ho0) hb); have n2_ := Aside0.mk (Kd.R_elder' (by (with_reducible repeat (first | apply Kd.R_alloc | apply Kd.R_drewN | apply Kd.R_drew)); exact HO_33.out) (Kd.R_base ho0) hb); have n3_ := Aside0.mk (Kd.R_elder' (by (with_reducible repeat (first | apply Kd.R_alloc | apply Kd.R_drewN | apply Kd.R_drew)); exact HO226.out) (Kd.R_base ho0) hb); have n4_ := Aside0.mk (Kd.R_lower (Kd.R_new' (Kd.R_new' (Kd.R_new' (Kd.R_new' ho0 (Kd.R_lt (by (with_reducible repeat (first | apply Kd.R_alloc | apply Kd.R_drewN | apply Kd.R_drew)); exact HO_5.out))) (Kd.R_lt (by (with_reducible repeat (first | apply Kd.R_alloc | apply Kd.R_drewN | apply Kd.R_drew)); exact HO_6.out))) (Kd.R_lt (by (with_reducible repeat (first | apply Kd.R_alloc | apply Kd.R_drewN | apply Kd.R_drew)); exact HO_33.out))) (Kd.R_lt (by (with_reducible repeat (first | apply Kd.R_alloc | apply Kd.R_drewN | apply Kd.R_drew)); exact HO226.out))) (below_size (by repeat (first | (with_reducible first | exact HB.out | apply below_alloc | apply pw_below_drewN | apply below_drew1) | exact HB.out)))); have n5_ := Aside0.mk (below_step (by repeat (first | (with_reducible first | exact HB.out | apply below_alloc | apply pw_below_drewN | apply below_drew1) | exact HB.out)) hb); clear HO_5; clear HO_6; clear HO_33; clear HO226; clear HB; have HO_5 := n0_; have HO_6 := n1_; have HO_33 := n2_; have HO226 := n3_; have HO229 := n4_; have HB := n5_; clear n0_ n1_ n2_ n3_ n4_ n5_; (try clear hb); (try clear hb2); (try clear hk); (try clear hi); (try clear ho0); obtain ⟨Ao46, co46, eo46⟩ := Kd.R_slice HO226.out; subst eo46; obtain ⟨Ao47, co47, eo47⟩ := Kd.R_slice HO229.out; subst eo47) | (go_at_call 19; (with_reducible refine (trustquorummake_Ints.calls k1 _ _ t223 _ _ t227 false _ ?side1 ?side2 ?side3 ?side4 A36.out).mono ?_); (case side1 => repeat (first | exact (Kd.R_reads' HO226.out).2.2 | (with_reducible refine Kd.C_alloc ?_ _) | (with_reducible refine Kd.C_drewN ?_ _) | (with_reducible refine Kd.C_drew ?_))); (case side2 => exact (Kd.R_reads' HO226.out).2.1); (case side3 => repeat (first | exact (Kd.R_reads' HO229.out).2.2 | (with_reducible refine Kd.C_alloc ?_ _) | (with_reducible refine Kd.C_drewN ?_ _) | (with_reducible refine Kd.C_drew ?_))); (case side4 => exact (Kd.R_reads' HO229.out).2.1); rintro e w' ⟨rfl, ⟨nd, rfl⟩⟩))
              go_ret
              exact ⟨by first | rfl | (simp [errW_none, errW_some] <;> rfl) | (simp [*, errW_none, errW_some] <;> rfl), by repeat (first | (with_reducible first | exact HB.out | apply below_alloc | apply pw_below_drewN | apply below_drew1) | exact HB.out)⟩
          · rw [if_neg c34] at H
            have c34b0 : (t224 == 0) = false := beq_eq_false_iff_ne.mpr c34
            have c34b1 : (t224 != 0) = true := bne_iff_ne.mpr c34
            obtain rfl := Option.some.inj H
            go_wp2_with (first | ((with_reducible refine gate_callee (f := 17) rfl ?_); refine goesL_ (some 78) rfl rfl Tryd.func17 (by kernel_rfl) rfl #[.slice Ao12 t210.length co12, .int .i64 t204] rfl (by (try simp only [List.map_toArray, List.map_cons, List.map_nil]); first | done | rfl | (simp only [List.length_drop, List.length_take]; rfl)) ?_; (with_reducible refine (nodeset_Meeting.calls _ _ t210 t204 t223 t224 _ ?side1 ?side2 A33.out).mono ?_); (case side1 => repeat (first | exact (Kd.R_reads' HO_6.out).2.2 | (with_reducible refine Kd.C_alloc ?_ _) | (with_reducible refine Kd.C_drewN ?_ _) | (with_reducible refine Kd.C_drew ?_))); (case side2 => exact (Kd.R_reads' HO_6.out).2.1); rintro e w48 ⟨v225, rfl, ho0, hb⟩; refine ⟨_, rfl, ?_⟩; have n0_ := Aside0.mk (Kd.R_elder' (by (with_reducible repeat (first | apply Kd.R_alloc | apply Kd.R_drewN | apply Kd.R_drew)); exact HO_5.out) (Kd.R_base ho0) hb); have n1_ := Aside0.mk (Kd.R_elder' (by (with_reducible repeat (first | apply Kd.R_alloc | apply Kd.R_drewN | apply Kd.R_drew)); exact HO_6.out) (Kd.R_base ho0) hb); have n2_ := Aside0.mk (Kd.R_elder' (by (with_reducible repeat (first | apply Kd.R_alloc | apply Kd.R_drewN | apply Kd.R_drew)); exact HO_33.out) (Kd.R_base ho0) hb); have n3_ := Aside0.mk (Kd.R_lower (Kd.R_new' (Kd.R_new' (Kd.R_new' ho0 (Kd.R_lt (by (with_reducible repeat (first | apply Kd.R_alloc | apply Kd.R_drewN | apply Kd.R_drew)); exact HO_5.out))) (Kd.R_lt (by (with_reducible repeat (first | apply Kd.R_alloc | apply Kd.R_drewN | apply Kd.R_drew)); exact HO_6.out))) (Kd.R_lt (by (with_reducible repeat (first | apply Kd.R_alloc | apply Kd.R_drewN | apply Kd.R_drew)); exact HO_33.out))) (below_size (by repeat (first | (with_reducible first | exact HB.out | apply below_alloc | apply pw_below_drewN | apply below_drew1) | exact HB.out)))); have n4_ := Aside0.mk (below_step (by repeat (first | (with_reducible first | exact HB.out | apply below_alloc | apply pw_below_drewN | apply below_drew1) | exact HB.out)) hb); clear HO_5; clear HO_6; clear HO_33; clear HB; have HO_5 := n0_; have HO_6 := n1_; have HO_33 := n2_; have HO226 := n3_; have HB := n4_; clear n0_ n1_ n2_ n3_ n4_; (try clear hb); (try clear hb2); (try clear hk); (try clear hi); (try clear ho0)))
            go_ret
            exact ⟨by first | rfl | (simp [errW_none, errW_some] <;> rfl) | (simp [*, errW_none, errW_some] <;> rfl), by repeat (first | (with_reducible first | exact HB.out | apply below_alloc | apply pw_below_drewN | apply below_drew1) | exact HB.out)⟩
  · rw [if_neg c6] at H
    have c6b0 : (t211 == 0) = false := beq_eq_false_iff_ne.mpr c6
    have c6b1 : (t211 != 0) = true := bne_iff_ne.mpr c6
    obtain rfl := Option.some.inj H
    go_enter Tryd.func5, Tryd.ntmps5
    go_wp2_with (first | ((with_reducible refine gate_callee (f := 12) rfl ?_); refine goesL_ (some 19) rfl rfl Tryd.func12 (by kernel_rfl) rfl #[.slice A0 l0.length c0] rfl (by (try simp only [List.map_toArray, List.map_cons, List.map_nil]); first | done | rfl | (simp only [List.length_drop, List.length_take]; rfl)) ?_; (with_reducible refine (trustquorummake_New.calls _ _ l0 t201 t202 w _ ?side1 ?side2 ?side3 A2.out).mono ?_); (case side1 => repeat (first | (with_reducible first | exact HB.out | apply below_alloc | apply pw_below_drewN | apply below_drew1) | exact HB.out)); (case side2 => exact HR0.out); (case side3 => exact HC0.out); rintro e w49 ⟨g203, rfl, hi, hb, hb2⟩; refine ⟨_, rfl, ?_⟩; have n0_ := Aside0.mk (hb); have n1_ := Aside0.mk (hi); clear HB; have HB := n0_; have HI203 := n1_; clear n0_ n1_; (try clear hb); (try clear hb2); (try clear hk); (try clear hi)) | ((with_reducible refine gate_callee (f := 14) rfl ?_); refine goesL_ (some 21) rfl rfl Tryd.func14 (by kernel_rfl) rfl #[.pointer (some ⟨g203, 0, none⟩), .int .i64 1, .int .i64 8] rfl (by (try simp only [List.map_toArray, List.map_cons, List.map_nil]); first | done | rfl | (simp only [List.length_drop, List.length_take]; rfl)) ?_; (with_reducible refine (trustquorummake_Tape_Range.calls g203 t201 t202 1 8 t204 t205 w _ ?side1 ?side2 A3.out).mono ?_); (case side1 => repeat (first | (with_reducible first | exact HI203.out | apply IsS51.alloc | apply IsS51.drewN | apply IsS51.drew | apply IsS51.set_1) | exact HI203.out)); (case side2 => repeat (first | (with_reducible first | exact HB.out | apply below_alloc | apply pw_below_drewN | apply below_drew1 | refine below_set ?_ (IsS51.ge HI203.out)) | exact HB.out)); rintro e w50 ⟨rfl, hi, hb, hk⟩; refine ⟨_, rfl, ?_⟩; have n0_ := Aside0.mk (hb); have n1_ := Aside0.mk (hi); clear HB; clear HI203; have HB := n0_; have HI203 := n1_; clear n0_ n1_; (try clear hb); (try clear hb2); (try clear hk); (try clear hi)) | ((with_reducible refine gate_callee (f := 13) rfl ?_); refine goesL_ (some 24) rfl rfl Tryd.func13 (by kernel_rfl) rfl #[.pointer (some ⟨g203, 0, none⟩), .int .i64 8, .int .i64 t204] rfl (by (try simp only [List.map_toArray, List.map_cons, List.map_nil]); first | done | rfl | (simp only [List.length_drop, List.length_take]; rfl)) ?_; (with_reducible refine (trustquorummake_Sets.calls k g203 t201 t205 8 t204 t206 t209 w _ ?side1 ?side2 A4.out).mono ?_); (case side1 => repeat (first | (with_reducible first | exact HI203.out | apply IsS51.alloc | apply IsS51.drewN | apply IsS51.drew | apply IsS51.set_1) | exact HI203.out)); (case side2 => repeat (first | (with_reducible first | exact HB.out | apply below_alloc | apply pw_below_drewN | apply below_drew1 | refine below_set ?_ (IsS51.ge HI203.out)) | exact HB.out)); rintro e w51 ⟨v207, rfl, ho0, hi, hb, hk⟩; refine ⟨_, rfl, ?_⟩; have n0_ := Aside0.mk (Kd.R_lower ho0 (below_size (by repeat (first | (with_reducible first | exact HB.out | apply below_alloc | apply pw_below_drewN | apply below_drew1 | refine below_set ?_ (IsS51.ge HI203.out)) | exact HB.out)))); have n1_ := Aside0.mk (hb); have n2_ := Aside0.mk (hi); clear HB; clear HI203; have HO208 := n0_; have HB := n1_; have HI203 := n2_; clear n0_ n1_ n2_; (try clear hb); (try clear hb2); (try clear hk); (try clear hi); (try clear ho0); obtain ⟨Ao52, co52, eo52⟩ := Kd.R_slice HO208.out; subst eo52) | ((with_reducible refine gate_callee (f := 17) rfl ?_); refine goesL_ (some 28) rfl rfl Tryd.func17 (by kernel_rfl) rfl #[.slice Ao52 t206.length co52, .int .i64 t204] rfl (by (try simp only [List.map_toArray, List.map_cons, List.map_nil]); first | done | rfl | (simp only [List.length_drop, List.length_take]; rfl)) ?_; (with_reducible refine (nodeset_Meeting.calls _ _ t206 t204 t210 t211 _ ?side1 ?side2 A5.out).mono ?_); (case side1 => repeat (first | exact (Kd.R_reads' HO208.out).2.2 | (with_reducible refine Kd.C_alloc ?_ _) | (with_reducible refine Kd.C_drewN ?_ _) | (with_reducible refine Kd.C_drew ?_))); (case side2 => exact (Kd.R_reads' HO208.out).2.1); rintro e w53 ⟨v212, rfl, ho0, hb⟩; refine ⟨_, rfl, ?_⟩; have n0_ := Aside0.mk (Kd.R_elder' (by (with_reducible repeat (first | apply Kd.R_alloc | apply Kd.R_drewN | apply Kd.R_drew)); exact HO208.out) (Kd.R_base ho0) hb); have n1_ := Aside0.mk (Kd.R_lower (Kd.R_new' ho0 (Kd.R_lt (by (with_reducible repeat (first | apply Kd.R_alloc | apply Kd.R_drewN | apply Kd.R_drew)); exact HO208.out))) (below_size (by repeat (first | (with_reducible first | exact HB.out | apply below_alloc | apply pw_below_drewN | apply below_drew1 | refine below_set ?_ (IsS51.ge HI203.out)) | exact HB.out)))); have n2_ := Aside0.mk (IsS51.below (by repeat (first | (with_reducible first | exact HI203.out | apply IsS51.alloc | apply IsS51.drewN | apply IsS51.drew | apply IsS51.set_1) | exact HI203.out)) hb); have n3_ := Aside0.mk (below_step (by repeat (first | (with_reducible first | exact HB.out | apply below_alloc | apply pw_below_drewN | apply below_drew1 | refine below_set ?_ (IsS51.ge HI203.out)) | exact HB.out)) hb); clear HO208; clear HI203; clear HB; have HO208 := n0_; have HO213 := n1_; have HI203 := n2_; have HB := n3_; clear n0_ n1_ n2_ n3_; (try clear hb); (try clear hb2); (try clear hk); (try clear hi); (try clear ho0)))
    go_ret
    exact ⟨by first | rfl | (simp [errW_none, errW_some] <;> rfl) | (simp [*, errW_none, errW_some] <;> rfl), by repeat (first | (with_reducible first | exact HB.out | apply below_alloc | apply pw_below_drewN | apply below_drew1 | refine below_set ?_ (IsS51.ge HI203.out)) | exact HB.out)⟩
/-- THE ONE PURE STATEMENT of trustquorumlaw01_NodesetMeets: yours. -/
def trustquorumlaw01_NodesetMeets.Pure : Prop := ∀ (l0 : List Int), l0.length ≤ maxLen → l0.length * 8 ≤ 140737488351232 → (∀ x ∈ l0, (Lit.int .i64 x).wf = true) → ∃ k, trustquorumlaw01_NodesetMeets.f k l0 = some true
theorem trustquorumlaw01_NodesetMeets.walk (P : trustquorumlaw01_NodesetMeets.Pure) (a0 : Option Addr) (len0 cap0 : Nat) (z0 : List Int) (w : World) (w0 : (a0 = none ∧ len0 = 0 ∧ cap0 = 0 ∧ z0 = []) ∨ ∃ x, a0 = some x ∧ len0 ≤ cap0 ∧ cap0 ≤ maxLen ∧ z0.length = cap0 ∧ (∀ i, i < z0.length → w.cell? (x.add i) = some (.int .i64 (z0.getD i 0))) ∧ ∀ n ∈ z0, (Lit.int .i64 n).wf = true) (y0 : len0 * 8 ≤ 140737488351232) :
    Calls Tryd.prog 5 #[.slice a0 len0 cap0] w fun e w' => e = .returned (.bool true) ∧ Below w.heap.size w w' := by
  obtain ⟨l0, rfl, hr0, hm0, hw0, hc0⟩ := ReadsInt.ofRowC w0
  obtain ⟨k, h⟩ := P l0 hm0 y0 hw0
  refine (trustquorumlaw01_NodesetMeets.calls k _ _ l0 true w (Kd.C_of_reads (d := (0 : Int)) (h1 := fun _ => rfl) hr0) hc0 h).mono ?_
  rintro e w' ⟨rfl, hd⟩
  exact ⟨rfl, hd⟩
end Go.Proofs.YtfkpimjiaijmgaaDoor.G
end
section
namespace Go.Proofs.YtfkpimjiaijmgaaDoorV
/-- From t on, at most d numbers: the first one below 2^n of that size. -/
def seek (n size : Nat) : Nat → Nat → Option Nat
  | 0, _ => none
  | d + 1, t => if t < 2 ^ n then (if popc t = size then some t else seek n size d (t + 1)) else none
def nextN (n s : Nat) : Option Nat := match seek n (popc s) 1024 (s + 1) with
  | some t => some t
  | none => if popc s = n then none else some (2 ^ (popc s + 1) - 1)
def key (s : Nat) : Nat := popc s * 1024 + s
end Go.Proofs.YtfkpimjiaijmgaaDoorV
end
section
namespace Go.Proofs.YtfkpimjiaijmgaaDoorV
/-- a comes before b in the order of sets. -/
def before (a b : Int) : Prop := rankI a < rankI b ∨ (rankI a = rankI b ∧ a < b)
instance (a b : Int) : Decidable (before a b) := inferInstanceAs (Decidable (_ ∨ _))
theorem before_iff (a b : Int) : cmpI a b < 0 ↔ before a b := cmpI_lt a b
theorem before_trans {a b c : Int} (h : before a b) (k : before b c) : before a c := by unfold before at *; omega
theorem before_irrefl (a : Int) : ¬ before a a := by unfold before; omega
theorem before_total (a b : Int) : before a b ∨ a = b ∨ before b a := by unfold before; omega
theorem sortSets_perm (l : List Int) : (sortSets l).Perm l := List.mergeSort_perm _ _
theorem sortSets_sorted (l : List Int) : (sortSets l).Pairwise fun x y => ¬ before y x := by
  have := List.pairwise_mergeSort (le := fun x y => !decide (cmpI y x < 0)) (fun a b c h1 h2 => by
    simp only [Bool.not_eq_true', decide_eq_false_iff_not, before_iff] at *
    unfold before at *; omega) (fun a b => by
    simp only [Bool.or_eq_true, Bool.not_eq_true', decide_eq_false_iff_not, before_iff]
    unfold before; omega) l
  refine this.imp ?_
  intro a b h
  simpa [before_iff] using h
theorem mem_keepLeast : ∀ (l out : List Int) (s : Int), s ∈ keepLeast out l → s ∈ out ∨ s ∈ l
  | [], _, _, h => .inl h
  | x :: l, out, s, h => by
    unfold keepLeast at h
    rcases mem_keepLeast l _ s h with h | h
    · by_cases hx : (out.any fun t => subI t x) = true
      · rw [if_pos hx] at h; exact .inl h
      · rw [if_neg hx] at h
        rcases List.mem_append.1 h with h | h
        · exact .inl h
        · rw [List.mem_singleton.1 h]; exact .inr (by simp)
    · exact .inr (by simp [h])
theorem keep_out : ∀ (l out : List Int) (s : Int), s ∈ out → s ∈ keepLeast out l
  | [], _, _, h => h
  | x :: l, out, s, h => by
    unfold keepLeast
    refine keep_out l _ s ?_
    split
    · exact h
    · exact List.mem_append.2 (.inl h)
/-- Each element has one below it that is kept. -/
theorem keep_some : ∀ (l out : List Int) (s : Int), s ∈ l → ∃ t ∈ keepLeast out l, subI t s = true
  | x :: l, out, s, h => by
    unfold keepLeast
    rcases List.mem_cons.1 h with rfl | h
    · by_cases hx : (out.any fun t => subI t s) = true
      · rw [if_pos hx]
        obtain ⟨t, ht, hs⟩ := List.any_eq_true.1 hx
        exact ⟨t, keep_out _ _ _ ht, hs⟩
      · rw [if_neg hx]
        exact ⟨s, keep_out _ _ _ (by simp), by simp [subI]⟩
    · exact keep_some l _ s h
/-- What is kept has nothing kept ahead of it below it. -/
theorem keep_sorted : ∀ (l out : List Int), (out ++ l).Pairwise (fun x y => ¬ before y x) → out.Pairwise (fun x y => before x y ∧ subI x y = false) → (∀ x ∈ l, isSet x = true) → (∀ x ∈ out, isSet x = true) →
    (keepLeast out l).Pairwise (fun x y => before x y ∧ subI x y = false)
  | [], _, _, h, _, _ => h
  | x :: l, out, hs, h, hl, ho => by
    unfold keepLeast
    have hs' : (out ++ l).Pairwise (fun x y => ¬ before y x) := by
      rw [List.pairwise_append] at hs ⊢
      exact ⟨hs.1, (List.pairwise_cons.1 hs.2.1).2, fun a ha b hb => hs.2.2 a ha b (by simp [hb])⟩
    by_cases hx : (out.any fun t => subI t x) = true
    · rw [if_pos hx]; exact keep_sorted l out hs' h (fun y hy => hl y (by simp [hy])) ho
    · rw [if_neg hx]
      refine keep_sorted l (out ++ [x]) (by simpa using hs) ?_ (fun y hy => hl y (by simp [hy])) ?_
      · rw [List.pairwise_append]
        refine ⟨h, by simp, fun a ha b hb => ?_⟩
        rw [List.mem_singleton.1 hb]
        have hn : subI a x = false := by
          cases hz : subI a x with
          | false => rfl
          | true => exact absurd (List.any_eq_true.2 ⟨a, ha, hz⟩) hx
        have hnb := (List.pairwise_append.1 hs).2.2 a ha x (by simp)
        rcases before_total a x with hb | rfl | hb
        · exact ⟨hb, hn⟩
        · simp [subI] at hn
        · exact absurd hb hnb
      · intro y hy
        rcases List.mem_append.1 hy with hy | hy
        · exact ho y hy
        · rw [List.mem_singleton.1 hy]; exact hl x (by simp)
/-- A subset is no greater: it comes first, or is the set. -/
theorem sub_before {t s : Int} (ht : isSet t = true) (hs : isSet s = true) (h : subI t s = true) : before t s ∨ t = s := by
  obtain ⟨a, rfl, ha⟩ := isSet_nat ht
  obtain ⟨b, rfl, hb⟩ := isSet_nat hs
  simp only [subI, Int.toNat_natCast, beq_iff_eq] at h
  have hle : popc a ≤ popc b := by
    rw [popc_bits ⟨a, ha⟩, popc_bits ⟨b, hb⟩]
    rw [← List.countP_eq_length_filter, ← List.countP_eq_length_filter]
    refine List.countP_mono_left fun k _ hk => ?_
    have hk' : a.testBit k = true := hk
    rw [← h, Nat.testBit_and] at hk'
    simp at hk'
    exact hk'.2
  have hab : a ≤ b := by rw [← h]; exact Nat.and_le_right
  have ra : rankI (a : Int) = popc a := by unfold rankI; rw [if_pos ht]; rfl
  have rb : rankI (b : Int) = popc b := by unfold rankI; rw [if_pos hs]; rfl
  unfold before
  rw [ra, rb]
  omega
theorem leastL_sorted (l : List Int) : (leastL l).Pairwise (fun x y => before x y ∧ subI x y = false) := by
  refine keep_sorted _ [] (by simpa using sortSets_sorted _) (by simp) (fun x hx => ?_) (by simp)
  exact (List.mem_filter.1 ((sortSets_perm _).mem_iff.1 hx)).2
theorem mem_leastL {l : List Int} {s : Int} : s ∈ leastL l ↔ s ∈ l ∧ isSet s = true ∧ ∀ t ∈ l, isSet t = true → subI t s = true → t = s := by
  have hmem : ∀ x, x ∈ sortSets (l.filter isSet) ↔ x ∈ l ∧ isSet x = true := fun x => by
    rw [(sortSets_perm _).mem_iff, List.mem_filter]
  constructor
  · intro h
    have h1 : s ∈ l ∧ isSet s = true := by
      rcases mem_keepLeast _ _ _ h with h | h
      · simp at h
      · exact (hmem s).1 h
    refine ⟨h1.1, h1.2, fun t ht hts hsub => ?_⟩
    obtain ⟨u, hu, hut⟩ := keep_some (sortSets (l.filter isSet)) [] t ((hmem t).2 ⟨ht, hts⟩)
    have hu1 : isSet u = true := by
      rcases mem_keepLeast _ _ _ hu with h | h
      · simp at h
      · exact ((hmem u).1 h).2
    have hus : subI u s = true := by
      simp only [subI, beq_iff_eq] at *
      rw [← hut, Nat.and_assoc, hsub]
    have heq : u = s := by
      have hp := leastL_sorted l
      apply Classical.byContradiction
      intro hne
      obtain ⟨i, hi, rfl⟩ := List.getElem_of_mem hu
      obtain ⟨j, hj, rfl⟩ := List.getElem_of_mem h
      have hpw := List.pairwise_iff_getElem.1 hp
      rcases Nat.lt_trichotomy i j with hij | rfl | hij
      · have h0 := (hpw i j hi hj hij).2; exact absurd (h0.symm.trans hus) (by simp)
      · exact hne rfl
      · have hb := (hpw j i hj hi hij).1
        rcases sub_before hu1 h1.2 hus with hb' | he
        · exact before_irrefl _ (before_trans hb hb')
        · exact hne he
    subst heq
    rcases sub_before hu1 hts hut with hb | he
    · rcases sub_before hts h1.2 hsub with hb' | he
      · exact absurd (before_trans hb hb') (before_irrefl _)
      · exact he
    · exact he.symm
  · rintro ⟨h1, h2, h3⟩
    obtain ⟨u, hu, hus⟩ := keep_some (sortSets (l.filter isSet)) [] s ((hmem s).2 ⟨h1, h2⟩)
    have hu' : u ∈ l ∧ isSet u = true := by
      rcases mem_keepLeast _ _ _ hu with h | h
      · simp at h
      · exact (hmem u).1 h
    have := h3 u hu'.1 hu'.2 hus
    rw [← this]; exact hu
/-- Two strictly sorted lists with the same elements are one. -/
theorem sorted_ext : ∀ {l m : List Int}, l.Pairwise before → m.Pairwise before → (∀ x, x ∈ l ↔ x ∈ m) → l = m
  | [], [], _, _, _ => rfl
  | [], y :: m, _, _, h => by have := (h y).2 (by simp); simp at this
  | x :: l, [], _, _, h => by have := (h x).1 (by simp); simp at this
  | x :: l, y :: m, hl, hm, h => by
    have hl' := List.pairwise_cons.1 hl
    have hm' := List.pairwise_cons.1 hm
    have hxy : x = y := by
      rcases List.mem_cons.1 ((h x).1 (by simp)) with he | hx
      · exact he
      · rcases List.mem_cons.1 ((h y).2 (by simp)) with he | hy
        · exact he.symm
        · exact absurd (before_trans (hl'.1 y hy) (hm'.1 x hx)) (before_irrefl _)
    subst hxy
    congr 1
    refine sorted_ext hl'.2 hm'.2 (fun z => ?_)
    constructor
    · intro hz
      rcases List.mem_cons.1 ((h z).1 (by simp [hz])) with rfl | hz'
      · exact absurd (hl'.1 z hz) (before_irrefl _)
      · exact hz'
    · intro hz
      rcases List.mem_cons.1 ((h z).2 (by simp [hz])) with rfl | hz'
      · exact absurd (hm'.1 z hz) (before_irrefl _)
      · exact hz'
theorem leastL_eq {l m : List Int} (hm : m.Pairwise before) (h : ∀ x, x ∈ leastL l ↔ x ∈ m) : leastL l = m :=
  sorted_ext ((leastL_sorted l).imp fun h => h.1) hm h
end Go.Proofs.YtfkpimjiaijmgaaDoorV
end
section
namespace Go.Proofs.YtfkpimjiaijmgaaDoor.Q
open Go.RowKit Go.Proofs.YtfkpimjiaijmgaaDoor.G Go.Proofs.YtfkpimjiaijmgaaDoorW.PrintWords Go.Proofs.YtfkpimjiaijmgaaDoorW.PrintLast Go.Proofs.YtfkpimjiaijmgaaDoorW.PrintMore Go.Proofs.YtfkpimjiaijmgaaDoorV
set_option linter.unusedVariables false
/-- A tape: at most 400 numbers; the place lies in it. -/
structure TI (l : List Int) (p : Int) : Prop where
  len : l.length ≤ 400
  lo : 0 ≤ p
  hi : p ≤ l.length
theorem wrap_of {x : Int} (h0 : -9223372036854775808 ≤ x) (h1 : x ≤ 9223372036854775807) : wrap64 x = x := by unfold wrap64; omega
theorem tape_new (l : List Int) : ∃ l', trustquorummake_New.f l = some (l', 0) ∧ TI l' 0 := by
  unfold trustquorummake_New.f
  have h : mn (l.length : Int) 400 ≤ 400 ∧ mn (l.length : Int) 400 ≤ l.length ∧ 0 ≤ mn (l.length : Int) 400 := by unfold mn; split <;> omega
  rw [if_pos h.2.2, if_pos h.2.1]
  refine ⟨_, rfl, ⟨?_, Int.le_refl _, by omega⟩⟩
  rw [List.length_take]; omega
theorem tape_N {l : List Int} {p : Int} (h : TI l p) (n : Int) (hn : 0 < n) (hn2 : n ≤ 4294967296) : ∃ r q, trustquorummake_Tape_N.f l p n = some (r, q) ∧ 0 ≤ r ∧ r < n ∧ TI l q := by
  obtain ⟨h1, h2, h3⟩ := h
  unfold trustquorummake_Tape_N.f
  by_cases c : p ≥ (l.length : Int)
  · rw [if_pos c]; exact ⟨0, p, rfl, Int.le_refl _, hn, h1, h2, h3⟩
  · rw [if_neg c, if_pos h2, if_pos (by omega), if_neg (by omega)]
    have hp : wrap64 (p + 1) = p + 1 := wrap_of (by omega) (by omega)
    have t1 := Int.tmod_lt_of_pos (rd l p) hn
    have t2 := Int.lt_tmod_of_pos (rd l p) hn
    rw [hp]
    by_cases c2 : Int.tmod (rd l p) n < 0
    · rw [if_pos c2, wrap_of (by omega) (by omega)]; exact ⟨_, _, rfl, by omega, by omega, h1, by omega, by omega⟩
    · rw [if_neg c2]; exact ⟨_, _, rfl, by omega, by omega, h1, by omega, by omega⟩
theorem tape_Range {l : List Int} {p : Int} (h : TI l p) (a b : Int) (hab : a ≤ b) (ha : -1000000 ≤ a) (hb : b ≤ 1000000) : ∃ r q, trustquorummake_Tape_Range.f l p a b = some (r, q) ∧ a ≤ r ∧ r ≤ b ∧ TI l q := by
  unfold trustquorummake_Tape_Range.f
  have w1 : wrap64 (b - a) = b - a := wrap_of (by omega) (by omega)
  have w2 : wrap64 (b - a + 1) = b - a + 1 := wrap_of (by omega) (by omega)
  rw [w1, w2]
  obtain ⟨r, q, e, h0, h1, hq⟩ := tape_N h (b - a + 1) (by omega) (by omega)
  rw [e]
  refine ⟨a + r, q, ?_, by omega, by omega, hq⟩
  simp only [Option.bind_some]
  rw [wrap_of (by omega) (by omega)]
end Go.Proofs.YtfkpimjiaijmgaaDoor.Q
end
section
namespace Go.Proofs.YtfkpimjiaijmgaaDoor.Q
open Go.RowKit Go.Proofs.YtfkpimjiaijmgaaDoor.G Go.Proofs.YtfkpimjiaijmgaaDoorW.PrintWords Go.Proofs.YtfkpimjiaijmgaaDoorW.PrintLast Go.Proofs.YtfkpimjiaijmgaaDoorW.PrintMore Go.Proofs.YtfkpimjiaijmgaaDoorV
set_option linter.unusedVariables false
def hasI (s k : Int) : Bool := isSet s && (decide (0 ≤ k) && (decide (k < 10) && s.toNat.testBit k.toNat))
theorem refValid_eq (x : Int) : trustquorumref01_Valid.f x = some (isSet x) := by
  unfold trustquorumref01_Valid.f isSet
  by_cases h : 0 ≤ x
  · simp [h, ge_iff_le]; omega
  · simp [h, ge_iff_le]
theorem refHas_eq (s k : Int) : trustquorumref01_Has.f s k = some (hasI s k) := by
  unfold trustquorumref01_Has.f hasI
  rw [refValid_eq]
  simp only [Option.bind_some]
  cases hs : isSet s with
  | false => simp
  | true =>
    by_cases h0 : 0 ≤ k
    · by_cases h1 : k < 10
      · obtain ⟨n, rfl, hn⟩ := isSet_nat hs
        obtain ⟨m, rfl⟩ := Int.eq_ofNat_of_zero_le h0
        have := (by decide +kernel : ∀ n : Fin 1024, ∀ m : Fin 10, (Go.bits .and .i64 (shr .i64 (n.1 : Int) (m.1 : Int)) 1 == 1) = n.1.testBit m.1) ⟨n, hn⟩ ⟨m, by omega⟩
        simp only [ge_iff_le, h0, h1, if_true, decide_true, Bool.true_and, Int.toNat_natCast, this]
      · simp [ge_iff_le, h0, h1]
    · simp [ge_iff_le, h0]
end Go.Proofs.YtfkpimjiaijmgaaDoor.Q
end
section
namespace Go.Proofs.YtfkpimjiaijmgaaDoor.Q
open Go.RowKit Go.Proofs.YtfkpimjiaijmgaaDoor.G Go.Proofs.YtfkpimjiaijmgaaDoorW.PrintWords Go.Proofs.YtfkpimjiaijmgaaDoorW.PrintLast Go.Proofs.YtfkpimjiaijmgaaDoorW.PrintMore Go.Proofs.YtfkpimjiaijmgaaDoorV
set_option linter.unusedVariables false
theorem below_eq (x : Int) (n : Nat) (hn : n ≤ 10) : nodeset_below.f x n = some (decide (0 ≤ x) && decide (x < 2 ^ n)) := by
  have e : shl .i64 1 n = 2 ^ n := (by decide +kernel : ∀ m : Fin 11, shl .i64 1 (m.1 : Int) = 2 ^ m.1) ⟨n, by omega⟩
  unfold nodeset_below.f
  rw [e]
  by_cases h : 0 ≤ x <;> simp [h, ge_iff_le]
theorem pow_le_1024 (n : Nat) (hn : n ≤ 10) : 2 ^ n ≤ 1024 := (by decide : ∀ m : Fin 11, 2 ^ m.1 ≤ 1024) ⟨n, by omega⟩
theorem size_eqN (s : Nat) (h : s < 1024) : nodeset_Size.f (s : Int) = some (popc s : Int) := by
  have := size_eq (s : Int) (by simp [isSet]; omega)
  simpa using this
theorem next_loop (n : Nat) (hn : n ≤ 10) (size : Nat) (hs : size ≤ n) : ∀ (d k t : Nat), t + d = 2 ^ n → d < k → ∀ d', d ≤ d' →
    nodeset_Next.l0 k n size t = some (match seek n size d' t with | some u => ((u : Int), true) | none => if size = n then (0, false) else (((2 ^ (size + 1) - 1 : Nat) : Int), true))
  | 0, k + 1, t, ht, _, d', _ => by
    have hp := pow_le_1024 n hn
    have e : seek n size d' t = none := by cases d' <;> simp [seek]; omega
    simp only [nodeset_Next.l0, e]
    rw [below_eq _ n hn]
    have e2 : (decide (0 ≤ (t : Int)) && decide ((t : Int) < 2 ^ n)) = false := by
      have : ¬ ((t : Int) < 2 ^ n) := by have : ((2 ^ n : Nat) : Int) = 2 ^ n := by simp
                                         omega
      simp [this]
    rw [e2]
    simp only [Option.bind_some, Bool.false_eq_true, if_false]
    by_cases h : size = n
    · simp [h]
    · have hne : ¬ ((size : Int) = n) := by omega
      have w1 : wrap64 ((size : Int) + 1) = ((size + 1 : Nat) : Int) := by unfold wrap64; omega
      have e3 : shl .i64 1 ((size + 1 : Nat) : Int) = ((2 ^ (size + 1) : Nat) : Int) := (by decide +kernel : ∀ m : Fin 12, shl .i64 1 (m.1 : Int) = ((2 ^ m.1 : Nat) : Int)) ⟨size + 1, by omega⟩
      have hp2 : 1 ≤ 2 ^ (size + 1) ∧ 2 ^ (size + 1) ≤ 1024 := ⟨Nat.one_le_two_pow, pow_le_1024 _ (by omega)⟩
      rw [if_neg hne, if_neg h, w1, e3, if_pos (by omega)]
      have : wrap64 (((2 ^ (size + 1) : Nat) : Int) - 1) = ((2 ^ (size + 1) - 1 : Nat) : Int) := by unfold wrap64; omega
      rw [this]
  | d + 1, k + 1, t, ht, hk, d' + 1, hd => by
    have hp := pow_le_1024 n hn
    have ht' : t < 2 ^ n := by omega
    simp only [nodeset_Next.l0, seek, if_pos ht']
    rw [below_eq _ n hn]
    have e2 : (decide (0 ≤ (t : Int)) && decide ((t : Int) < 2 ^ n)) = true := by
      have : ((t : Int) < 2 ^ n) := by have : ((2 ^ n : Nat) : Int) = 2 ^ n := by simp
                                       omega
      simp [this]
    rw [e2]
    simp only [Option.bind_some, if_true]
    rw [size_eqN t (by omega)]
    simp only [Option.bind_some]
    by_cases h : popc t = size
    · simp [h]
    · have hne : ¬ ((popc t : Int) = size) := by omega
      rw [if_neg hne, if_neg h]
      have w1 : wrap64 ((t : Int) + 1) = ((t + 1 : Nat) : Int) := by unfold wrap64; omega
      rw [w1]
      exact next_loop n hn size hs d k (t + 1) (by omega) (by omega) d' (by omega)
theorem next_eq (k n : Nat) (hk : 1026 ≤ k) (hn : n ≤ 10) (s : Nat) (hs : s < 2 ^ n) (hsz : popc s ≤ n) :
    nodeset_Next.f k s n = some (match nextN n s with | some u => ((u : Int), true) | none => (0, false)) := by
  have hp := pow_le_1024 n hn
  obtain ⟨k, rfl⟩ : ∃ m, k = m + 1 := ⟨k - 1, by omega⟩
  have e2 : (decide (0 ≤ (s : Int)) && decide ((s : Int) < 2 ^ n)) = true := by
    have : ((s : Int) < 2 ^ n) := by have : ((2 ^ n : Nat) : Int) = 2 ^ n := by simp
                                     omega
    simp [this]
  have w1 : wrap64 ((s : Int) + 1) = ((s + 1 : Nat) : Int) := by unfold wrap64; omega
  have hl := next_loop n hn (popc s) hsz (2 ^ n - (s + 1)) k (s + 1) (by omega) (by omega) 1024 (by omega)
  unfold nodeset_Next.f
  rw [if_neg (by omega), if_neg (by omega), below_eq _ n hn, e2]
  simp only [Option.bind_some, Bool.not_true, nodeset_Next.j0, Bool.false_eq_true, if_false]
  rw [size_eqN s (by omega)]
  simp only [Option.bind_some]
  rw [w1, hl]
  unfold nextN
  generalize seek n (popc s) 1024 (s + 1) = z
  cases z with
  | some u => rfl
  | none => by_cases h : popc s = n <;> simp [h]
end Go.Proofs.YtfkpimjiaijmgaaDoor.Q
end
section
namespace Go.Proofs.YtfkpimjiaijmgaaDoor.Q
open Go.RowKit Go.Proofs.YtfkpimjiaijmgaaDoor.G Go.Proofs.YtfkpimjiaijmgaaDoorW.PrintWords Go.Proofs.YtfkpimjiaijmgaaDoorW.PrintLast Go.Proofs.YtfkpimjiaijmgaaDoorW.PrintMore Go.Proofs.YtfkpimjiaijmgaaDoorV
set_option linter.unusedVariables false
theorem next_ev {n s : Nat} (hn : n ≤ 10) (hs : s < 2 ^ n) (hp : popc s ≤ n) : Ev (fun k => nodeset_Next.f k s n) (match nextN n s with | some u => ((u : Int), true) | none => (0, false)) := ⟨1026, fun k hk => next_eq k n hk hn s hs hp⟩
/-- Are these the least sets of a list? -/
def leastP (l : List Int) (x : Int) : Bool := l.contains x && (isSet x && l.all fun t => !isSet t || (!subI t x || t == x))
def checkL (l m : List Int) : Bool := decide (m.Pairwise before) && (m.all (leastP l) && l.all fun x => !leastP l x || m.contains x)
theorem leastP_iff {l : List Int} {x : Int} : leastP l x = true ↔ x ∈ leastL l := by
  rw [mem_leastL]
  unfold leastP
  simp only [Bool.and_eq_true, List.all_eq_true, List.contains_iff_mem, Bool.or_eq_true, Bool.not_eq_true', beq_iff_eq]
  constructor
  · rintro ⟨h1, h2, h3⟩
    refine ⟨h1, h2, fun t ht hs hu => ?_⟩
    rcases h3 t ht with h | h | h
    · rw [hs] at h; cases h
    · rw [hu] at h; cases h
    · exact h
  · rintro ⟨h1, h2, h3⟩
    refine ⟨h1, h2, fun t ht => ?_⟩
    cases hs : isSet t with
    | false => exact .inl rfl
    | true =>
      cases hu : subI t x with
      | false => exact .inr (.inl rfl)
      | true => exact .inr (.inr (h3 t ht hs hu))
theorem checkL_eq {l m : List Int} (h : checkL l m = true) : leastL l = m := by
  unfold checkL at h
  simp only [Bool.and_eq_true, decide_eq_true_eq, List.all_eq_true] at h
  refine leastL_eq h.1 fun x => ?_
  constructor
  · intro hx
    have := h.2.2 x (mem_leastL.1 hx).1
    rw [leastP_iff.2 hx] at this
    simpa using this
  · intro hx
    exact leastP_iff.1 (h.2.1 x hx)
theorem meeting_ex : nodeset_Meeting.f [3, 6] 3 = some ([2, 5], 0) := by
  have e1 : leastL [3, 6] = [3, 6] := checkL_eq (by decide +kernel)
  have e2 : meetG [3, 6] (2 ^ (3 : Int).toNat) 0 [] = [2, 3, 5, 6, 7] := by decide +kernel
  have e3 : leastL [2, 3, 5, 6, 7] = [2, 5] := checkL_eq (by decide +kernel)
  unfold nodeset_Meeting.f
  rw [if_neg (by decide), if_neg (by decide), if_neg (by decide +kernel), if_neg (by decide), e1, e2, e3]
theorem text_ex : nodeset_Text.f 30 37 = some ⟨#[123, 48, 32, 50, 32, 53, 125]⟩ := by decide +kernel
theorem ints_ex : trustquorummake_Ints.f 5 [2, 5] [2, 5] = some true := by decide +kernel
theorem awake_ev : Ev (fun k => trustquorumlaw01_awake.f k) true := by
  have h1 := next_ev (n := 6) (s := 37) (by omega) (by omega) (by decide)
  have e1 : nextN 6 37 = some 38 := by decide +kernel
  rw [e1] at h1
  have h2 : Ev (fun k => nodeset_Text.f k 37) ⟨#[123, 48, 32, 50, 32, 53, 125]⟩ := Ev.of (fun k => nodeset_Text.mono 37 k) text_ex
  have h3 : Ev (fun k => trustquorummake_Ints.f k [2, 5] [2, 5]) true := Ev.of (fun k => trustquorummake_Ints.mono [2, 5] [2, 5] k) ints_ex
  refine Ev.congr (fun k => by unfold trustquorumlaw01_awake.f; rfl) (Ev.bind h1 ?_)
  refine Ev.congr (fun k => by rw [meeting_ex]; simp only [Option.bind_some, if_true]; rw [if_pos (show ((38 : Nat) : Int) = 38 from rfl)]) (Ev.bind h2 ?_)
  refine Ev.congr (fun k => by rw [if_pos (by decide +kernel)]) (Ev.bind h3 (Ev.now _))
theorem set_nat {n : Nat} (h : n < 1024) : isSet (n : Int) = true := by simp [isSet]; omega
theorem rdg {l : List Int} {i : Nat} (h : i < l.length) : rd l (i : Int) = l[i] := by
  unfold rd; rw [List.getD_eq_getElem?_getD, Int.toNat_natCast, List.getElem?_eq_getElem h]; rfl
theorem upi {i : Nat} (h : i ≤ 4611686018427387904) : wrap64 ((i : Int) + 1) = ((i + 1 : Nat) : Int) := by rw [wrap_of (by omega) (by omega)]; omega
theorem shl_pow {n : Nat} (h : n ≤ 10) : shl .i64 1 (n : Int) = ((2 ^ n : Nat) : Int) := (by decide +kernel : ∀ m : Fin 11, shl .i64 1 (m.1 : Int) = ((2 ^ m.1 : Nat) : Int)) ⟨n, by omega⟩
end Go.Proofs.YtfkpimjiaijmgaaDoor.Q
end
section
namespace Go.Proofs.YtfkpimjiaijmgaaDoor.Q
open Go.RowKit Go.Proofs.YtfkpimjiaijmgaaDoor.G Go.Proofs.YtfkpimjiaijmgaaDoorW.PrintWords Go.Proofs.YtfkpimjiaijmgaaDoorW.PrintLast Go.Proofs.YtfkpimjiaijmgaaDoorW.PrintMore Go.Proofs.YtfkpimjiaijmgaaDoorV
set_option linter.unusedVariables false
theorem sets_l0 {l : List Int} {m : Nat} (hm : m ≤ 10) : ∀ (r : Nat) (p : Int) (out : List Int), TI l p → out.length + r ≤ 1000000 → (∀ x ∈ out, 0 ≤ x ∧ x < ((2 ^ m : Nat) : Int)) →
    ∃ xs q, Ev (fun k => trustquorummake_Sets.l0 k m out r l p) (xs, q) ∧ xs.length = out.length + r ∧ (∀ x ∈ xs, 0 ≤ x ∧ x < ((2 ^ m : Nat) : Int)) ∧ TI l q
  | 0, p, out, hp, ho, hs => ⟨out, p, Ev.step (f := fun _ => some (out, p)) (fun k => by simp only [trustquorummake_Sets.l0]; rw [if_neg (by omega)]) (Ev.now _), rfl, hs, hp⟩
  | r + 1, p, out, hp, ho, hs => by
    have h1 : 1 ≤ 2 ^ m := Nat.one_le_two_pow
    have h2 := pow_le_1024 m hm
    obtain ⟨x, q, e, x0, x1, hq⟩ := tape_N hp ((2 ^ m : Nat) : Int) (by omega) (by omega)
    obtain ⟨xs, q2, e2, hl, hxs, hq2⟩ := sets_l0 hm r q (out ++ [x]) hq (by simp; omega) (fun y hy => by
      rcases List.mem_append.1 hy with h | h
      · exact hs y h
      · rw [List.mem_singleton.1 h]; exact ⟨x0, x1⟩)
    refine ⟨xs, q2, Ev.step (fun k => ?_) e2, by rw [hl]; simp; omega, hxs, hq2⟩
    have w : wrap64 (((r + 1 : Nat) : Int) - 1) = (r : Int) := by rw [wrap_of (by omega) (by omega)]; omega
    simp only [trustquorummake_Sets.l0]
    rw [if_pos (by omega), if_pos (by omega), shl_pow hm, e]
    simp only [Option.bind_some]
    rw [if_pos (by omega), w]
theorem tape_Sets {l : List Int} {p : Int} (h : TI l p) (n m : Nat) (hn : n ≤ 1000) (hm : m ≤ 10) :
    ∃ xs q, Ev (fun k => trustquorummake_Sets.f k l p n m) (xs, q) ∧ xs.length ≤ n ∧ (∀ x ∈ xs, 0 ≤ x ∧ x < ((2 ^ m : Nat) : Int)) ∧ TI l q := by
  obtain ⟨r, q, e, r0, r1, hq⟩ := tape_N h ((n : Int) + 1) (by omega) (by omega)
  obtain ⟨r, rfl⟩ := Int.eq_ofNat_of_zero_le r0
  obtain ⟨xs, q2, e2, hl, hxs, hq2⟩ := sets_l0 (l := l) hm r q [] hq (by simp; omega) (by simp)
  refine ⟨xs, q2, Ev.congr (fun k => ?_) e2, by simp at hl; omega, hxs, hq2⟩
  unfold trustquorummake_Sets.f
  rw [wrap_of (by omega) (by omega), e]; rfl
theorem keep_len : ∀ (l out : List Int), (keepLeast out l).length ≤ out.length + l.length
  | [], _ => by simp [keepLeast]
  | x :: l, out => by
    unfold keepLeast
    refine Nat.le_trans (keep_len l _) ?_
    split <;> simp <;> omega
theorem least_length (l : List Int) : (leastL l).length ≤ l.length := by
  have h1 := keep_len (sortSets (l.filter isSet)) []
  have h2 := (sortSets_perm (l.filter isSet)).length_eq
  have h3 := List.length_filter_le isSet l
  have h7 : ([] : List Int).length = 0 := rfl
  unfold leastL; omega
theorem least_some' {l : List Int} {x : Int} (h : x ∈ l) (hs : isSet x = true) : ∃ y ∈ leastL l, subI y x = true := by
  unfold leastL
  exact keep_some _ [] _ ((sortSets_perm _).mem_iff.2 (List.mem_filter.2 ⟨h, hs⟩))
end Go.Proofs.YtfkpimjiaijmgaaDoor.Q
end
section
namespace Go.Proofs.YtfkpimjiaijmgaaDoor.Q
open Go.RowKit Go.Proofs.YtfkpimjiaijmgaaDoor.G Go.Proofs.YtfkpimjiaijmgaaDoorW.PrintWords Go.Proofs.YtfkpimjiaijmgaaDoorW.PrintLast Go.Proofs.YtfkpimjiaijmgaaDoorW.PrintMore Go.Proofs.YtfkpimjiaijmgaaDoorV
set_option linter.unusedVariables false
theorem and_zero_iff {s t : Nat} : s &&& t = 0 ↔ ∀ i, s.testBit i = true → t.testBit i = false := by
  constructor
  · intro h i hi
    have := congrArg (fun z => z.testBit i) h
    simp only [Nat.testBit_and, hi, Bool.true_and, Nat.zero_testBit] at this
    exact this
  · intro h
    refine Nat.eq_of_testBit_eq fun i => ?_
    rw [Nat.testBit_and, Nat.zero_testBit]
    cases hs : s.testBit i with
    | false => rfl
    | true => rw [h i hs]; rfl
theorem and_self_iff' {s t : Nat} : s &&& t = s ↔ ∀ i, s.testBit i = true → t.testBit i = true := by
  constructor
  · intro h i hi
    have := congrArg (fun z => z.testBit i) h
    simp only [Nat.testBit_and, hi, Bool.true_and] at this
    exact this
  · intro h
    refine Nat.eq_of_testBit_eq fun i => ?_
    rw [Nat.testBit_and]
    cases hs : s.testBit i with
    | false => rfl
    | true => rw [h i hs]; rfl
theorem miss_iff {s t : Nat} (hs : s < 1024) (ht : t < 1024) : missG (s : Int) (t : Int) = true ↔ s &&& t = 0 := by
  unfold missG
  rw [i64_and_nat s t (by omega) (by omega), beq_iff_eq]; omega
theorem sub_iff (s t : Nat) : subI (s : Int) (t : Int) = true ↔ s &&& t = s := by
  unfold subI
  simp only [Int.toNat_natCast, beq_iff_eq]
theorem meetG_eq (L : List Int) : ∀ (d i : Nat) (out : List Int), meetG L d i out = out ++ ((List.range' i d).filter fun (s : Nat) => !(L.any fun t => missG (s : Int) t)).map fun (s : Nat) => (s : Int)
  | 0, i, out => by simp [meetG]
  | d + 1, i, out => by
    unfold meetG
    rw [meetG_eq L d (i + 1), List.range'_succ, List.filter_cons]
    split
    · simp
    · simp
theorem mem_meetG {L : List Int} {N : Nat} {x : Int} : x ∈ meetG L N 0 [] ↔ ∃ s : Nat, x = (s : Int) ∧ s < N ∧ ∀ t ∈ L, missG (s : Int) t = false := by
  rw [meetG_eq, List.nil_append, List.mem_map]
  constructor
  · rintro ⟨s, hs, rfl⟩
    rw [List.mem_filter, List.mem_range'_1] at hs
    refine ⟨s, rfl, by omega, fun t ht => ?_⟩
    have h := hs.2
    cases hm : missG (s : Int) t with
    | false => rfl
    | true => rw [Bool.not_eq_true'] at h; rw [List.any_eq_true.2 ⟨t, ht, hm⟩] at h; cases h
  · rintro ⟨s, rfl, hs, h⟩
    refine ⟨s, List.mem_filter.2 ⟨List.mem_range'_1.2 ⟨by omega, by omega⟩, ?_⟩, rfl⟩
    rw [Bool.not_eq_true']
    cases ha : (L.any fun t => missG (s : Int) t) with
    | false => rfl
    | true => obtain ⟨t, ht, hm⟩ := List.any_eq_true.1 ha; rw [h t ht] at hm; cases hm
section
variable {n : Nat} (hn : n ≤ 8) {l : List Int} (hl : ∀ x ∈ l, 0 ≤ x ∧ x < ((2 ^ n : Nat) : Int))
include hn hl
theorem l_nat {x : Int} (hx : x ∈ l) : ∃ s : Nat, x = (s : Int) ∧ s < 2 ^ n ∧ s < 1024 := by
  have h := hl x hx
  have h2 := pow_le_1024 n (by omega)
  exact ⟨x.toNat, by omega, by omega, by omega⟩
theorem l_set {x : Int} (hx : x ∈ l) : isSet x = true := by
  obtain ⟨s, rfl, _, h⟩ := l_nat hn hl hx
  exact set_nat h
/-- What meets the least ones meets all. -/
theorem meets_all {s : Nat} (hs : s < 1024) : (∀ t ∈ leastL l, missG (s : Int) t = false) ↔ ∀ t ∈ l, missG (s : Int) t = false := by
  constructor
  · intro h t ht
    obtain ⟨y, hy, hu⟩ := least_some' ht (l_set hn hl ht)
    have hy' := h y hy
    obtain ⟨a, rfl, _, ha⟩ := l_nat hn hl (mem_leastL.1 hy).1
    obtain ⟨b, rfl, _, hb⟩ := l_nat hn hl ht
    cases hm : missG (s : Int) (b : Int) with
    | false => rfl
    | true =>
      have h1 := and_zero_iff.1 ((miss_iff hs hb).1 hm)
      have h2 := and_self_iff'.1 ((sub_iff a b).1 hu)
      have : missG (s : Int) (a : Int) = true := (miss_iff hs ha).2 (and_zero_iff.2 fun i hi => by
        cases ha' : a.testBit i with
        | false => rfl
        | true => have := h1 i hi; rw [h2 i ha'] at this; cases this)
      rw [this] at hy'; cases hy'
  · intro h t ht
    exact h t (mem_leastL.1 ht).1
def meetsL (l : List Int) (n : Nat) : List Int := leastL (meetG (leastL l) (2 ^ n) 0 [])
omit hn hl in
theorem meetsL_nat (hn : n ≤ 8) {x : Int} (hx : x ∈ meetsL l n) : ∃ s : Nat, x = (s : Int) ∧ s < 2 ^ n ∧ s < 1024 ∧ ∀ t ∈ leastL l, missG (s : Int) t = false := by
  obtain ⟨s, e, h1, h2⟩ := mem_meetG.1 (mem_leastL.1 hx).1
  have := pow_le_1024 n (by omega)
  exact ⟨s, e, h1, by omega, h2⟩
theorem meets_l {x : Int} (hx : x ∈ meetsL l n) : ∀ t ∈ l, missG x t = false := by
  obtain ⟨s, rfl, _, hs, h⟩ := meetsL_nat hn hx
  exact (meets_all hn hl hs).1 h
/-- No node can be left out. -/
theorem meets_tight {s : Nat} (hx : (s : Int) ∈ meetsL l n) {v : Nat} (hv : v < 10) (hb : s.testBit v = true) : ∃ t ∈ l, missG ((s - 2 ^ v : Nat) : Int) t = true := by
  obtain ⟨s', e, h1, hs, _⟩ := meetsL_nat hn hx
  obtain rfl : s = s' := by omega
  obtain ⟨d1, d2⟩ := (by decide +kernel : ∀ s : Fin 1024, ∀ v : Fin 10, s.1.testBit v.1 = true → s.1 - 2 ^ v.1 < s.1 ∧ (s.1 - 2 ^ v.1) &&& s.1 = s.1 - 2 ^ v.1) ⟨s, hs⟩ ⟨v, hv⟩ hb
  have hnot : ¬ ∀ t ∈ l, missG ((s - 2 ^ v : Nat) : Int) t = false := fun h => by
    have h2 := (mem_leastL.1 hx).2.2 ((s - 2 ^ v : Nat) : Int) (mem_meetG.2 ⟨s - 2 ^ v, rfl, Nat.lt_trans d1 h1, (meets_all hn hl (Nat.lt_trans d1 hs)).2 h⟩) (set_nat (Nat.lt_trans d1 hs)) ((sub_iff _ _).2 d2)
    exact absurd (Int.natCast_inj.1 h2) (Nat.ne_of_lt d1)
  cases ha : (l.any fun t => missG ((s - 2 ^ v : Nat) : Int) t) with
  | true => exact List.any_eq_true.1 ha
  | false =>
    refine absurd (fun t ht => ?_) hnot
    cases hm : missG ((s - 2 ^ v : Nat) : Int) t with
    | false => rfl
    | true => rw [List.any_eq_true.2 ⟨t, ht, hm⟩] at ha; cases ha
/-- What meets all that meet: what has one of the sets as a subset. -/
theorem meets_back {y : Nat} (hy : y < 2 ^ n) : (∀ x ∈ leastL (meetsL l n), missG (y : Int) x = false) ↔ ∃ z ∈ l, subI z (y : Int) = true := by
  have hN := pow_le_1024 n (by omega)
  constructor
  · intro h
    cases ha : (l.any fun z => subI z (y : Int)) with
    | true => exact List.any_eq_true.1 ha
    | false =>
      exfalso
      have hc : ∀ i, (2 ^ n - (y + 1)).testBit i = (decide (i < n) && !y.testBit i) := fun i => Nat.testBit_two_pow_sub_succ hy i
      have hcN : 2 ^ n - (y + 1) < 2 ^ n := by omega
      have hmeet : ∀ z ∈ l, missG ((2 ^ n - (y + 1) : Nat) : Int) z = false := fun z hz => by
        obtain ⟨b, rfl, hb1, hb⟩ := l_nat hn hl hz
        cases hm : missG ((2 ^ n - (y + 1) : Nat) : Int) (b : Int) with
        | false => rfl
        | true =>
          exfalso
          have h1 := and_zero_iff.1 ((miss_iff (by omega) hb).1 hm)
          have : subI (b : Int) (y : Int) = true := (sub_iff b y).2 (and_self_iff'.2 fun i hi => by
            have hin : i < n := by
              rcases Nat.lt_or_ge i n with h | h
              · exact h
              · have := Nat.testBit_lt_two_pow (Nat.lt_of_lt_of_le hb1 (Nat.pow_le_pow_right (by omega) h)); rw [hi] at this; cases this
            cases hyi : y.testBit i with
            | true => rfl
            | false => have := h1 i (by rw [hc, hyi]; simp [hin]); rw [hi] at this; cases this)
          rw [List.any_eq_true.2 ⟨_, hz, this⟩] at ha; cases ha
      have hmem : ((2 ^ n - (y + 1) : Nat) : Int) ∈ meetG (leastL l) (2 ^ n) 0 [] := mem_meetG.2 ⟨_, rfl, hcN, (meets_all hn hl (by omega)).2 hmeet⟩
      obtain ⟨x, hx, hu⟩ := least_some' hmem (set_nat (by omega))
      obtain ⟨x', hx', hu'⟩ := least_some' (l := meetsL l n) hx (mem_leastL.1 hx).2.1
      have hxm := (mem_leastL.1 hx').1
      obtain ⟨a, rfl, _, ha1, _⟩ := meetsL_nat hn hxm
      obtain ⟨b, rfl, _, hb1, _⟩ := meetsL_nat hn hx
      have hh := h (a : Int) hx'
      have e1 := and_self_iff'.1 ((sub_iff a b).1 hu')
      have e2 := and_self_iff'.1 ((sub_iff b _).1 hu)
      have : missG (y : Int) (a : Int) = true := (miss_iff (by omega) ha1).2 (and_zero_iff.2 fun i hi => by
        cases hai : a.testBit i with
        | false => rfl
        | true => have := e2 i (e1 i hai); rw [hc, hi] at this; simp at this)
      rw [this] at hh; cases hh
  · rintro ⟨z, hz, hu⟩ x hx
    have hxm := (mem_leastL.1 hx).1
    have h1 := meets_l hn hl hxm z hz
    obtain ⟨a, rfl, _, ha, _⟩ := meetsL_nat hn hxm
    obtain ⟨b, rfl, _, hb⟩ := l_nat hn hl hz
    cases hm : missG (y : Int) (a : Int) with
    | false => rfl
    | true =>
      exfalso
      have e1 := and_zero_iff.1 ((miss_iff (by omega) ha).1 hm)
      have e2 := and_self_iff'.1 ((sub_iff b y).1 hu)
      have : missG (a : Int) (b : Int) = true := (miss_iff ha hb).2 (and_zero_iff.2 fun i hi => by
        cases hbi : b.testBit i with
        | false => rfl
        | true => have := e1 i (e2 i hbi); rw [hi] at this; cases this)
      rw [this] at h1; cases h1
theorem meets_twice : leastL (meetG (leastL (meetsL l n)) (2 ^ n) 0 []) = leastL l := by
  have hN := pow_le_1024 n (by omega)
  have hc : ∀ x, x ∈ meetG (leastL (meetsL l n)) (2 ^ n) 0 [] ↔ ∃ s : Nat, x = (s : Int) ∧ s < 2 ^ n ∧ ∃ z ∈ l, subI z (s : Int) = true := fun x => by
    rw [mem_meetG]
    constructor
    · rintro ⟨s, e, hs, h⟩; exact ⟨s, e, hs, (meets_back hn hl hs).1 h⟩
    · rintro ⟨s, e, hs, h⟩; exact ⟨s, e, hs, (meets_back hn hl hs).2 h⟩
  have hself : ∀ z ∈ l, z ∈ meetG (leastL (meetsL l n)) (2 ^ n) 0 [] := fun z hz => by
    obtain ⟨s, rfl, hs, _⟩ := l_nat hn hl hz
    exact (hc _).2 ⟨s, rfl, hs, _, hz, (sub_iff s s).2 (Nat.and_self s)⟩
  refine leastL_eq ((leastL_sorted l).imp fun h => h.1) fun x => ?_
  rw [mem_leastL, mem_leastL]
  constructor
  · rintro ⟨h1, h2, h3⟩
    obtain ⟨s, rfl, hs, z, hz, hu⟩ := (hc x).1 h1
    have e := h3 z (hself z hz) (l_set hn hl hz) hu
    subst e
    exact ⟨hz, h2, fun t ht hst hut => h3 t (hself t ht) hst hut⟩
  · rintro ⟨h1, h2, h3⟩
    refine ⟨hself x h1, h2, fun t ht hst hut => ?_⟩
    obtain ⟨s, rfl, hs, z, hz, hu⟩ := (hc t).1 ht
    obtain ⟨a, rfl, _, _⟩ := l_nat hn hl h1
    obtain ⟨b, rfl, _, _⟩ := l_nat hn hl hz
    have e1 := (sub_iff b s).1 hu
    have e2 := (sub_iff s a).1 hut
    have e := h3 (b : Int) hz (l_set hn hl hz) ((sub_iff b a).2 (and_self_iff'.2 fun i hi => and_self_iff'.1 e2 i (and_self_iff'.1 e1 i hi)))
    have eb : b = a := by omega
    subst eb
    have : s = b := by rw [← e2, Nat.and_comm]; exact e1
    rw [this]
end
def nodesI (x : Int) : List Int := ((List.range' 0 10).filter fun (k : Nat) => hasI x (k : Int)).map fun (k : Nat) => (k : Int)
theorem refnodes_l0 (x : Int) : ∀ (d i : Nat) (out : List Int), i + d = 10 → out.length ≤ i → Ev (fun k => trustquorumref01_Nodes.l0 k x out i) (out ++ ((List.range' i d).filter fun (k : Nat) => hasI x (k : Int)).map fun (k : Nat) => (k : Int))
  | 0, i, out, hi, ho => by
    refine Ev.step (f := fun _ => some out) (fun k => ?_) (by simpa using Ev.now out)
    simp only [trustquorumref01_Nodes.l0]; rw [if_neg (by omega)]
  | d + 1, i, out, hi, ho => by
    rw [List.range'_succ, List.filter_cons]
    cases hh : hasI x (i : Int) with
    | true =>
      have ih := refnodes_l0 x d (i + 1) (out ++ [(i : Int)]) (by omega) (by simp; omega)
      have e : out ++ [(i : Int)] ++ ((List.range' (i + 1) d).filter fun (k : Nat) => hasI x (k : Int)).map (fun (k : Nat) => (k : Int)) = out ++ (i :: (List.range' (i + 1) d).filter fun (k : Nat) => hasI x (k : Int)).map fun (k : Nat) => (k : Int) := by simp
      simp only [if_true]
      rw [← e]
      refine Ev.step (fun k => ?_) ih
      simp only [trustquorumref01_Nodes.l0]
      rw [if_pos (by omega), refHas_eq, hh]
      simp only [Option.bind_some, if_true]
      rw [if_pos (by omega), upi (by omega)]
    | false =>
      have ih := refnodes_l0 x d (i + 1) out (by omega) (by omega)
      refine Ev.step (fun k => ?_) ih
      simp only [trustquorumref01_Nodes.l0]
      rw [if_pos (by omega), refHas_eq, hh]
      simp only [Option.bind_some, Bool.false_eq_true, if_false]
      rw [upi (by omega)]
theorem refnodes_ev (x : Int) : Ev (fun k => trustquorumref01_Nodes.f k x) (nodesI x) := by
  have := refnodes_l0 x 10 0 [] (by omega) (by simp)
  simpa [nodesI, trustquorumref01_Nodes.f] using this
theorem mem_nodesI {x v : Int} (h : v ∈ nodesI x) : ∃ k : Nat, v = (k : Int) ∧ k < 10 ∧ x.toNat.testBit k = true := by
  unfold nodesI at h
  obtain ⟨k, hk, rfl⟩ := List.mem_map.1 h
  obtain ⟨h1, h2⟩ := List.mem_filter.1 hk
  have := (List.mem_range'_1.1 h1).2
  refine ⟨k, rfl, by omega, ?_⟩
  unfold hasI at h2
  simp only [Bool.and_eq_true, Int.toNat_natCast] at h2
  exact h2.2.2.2
theorem ints_l0 {l : List Int} (hl : l.length ≤ 1073741824) : ∀ (d i : Nat), i + d = l.length → Ev (fun k => trustquorummake_Ints.l0 k l l l.length i) true
  | 0, i, hi => by
    refine Ev.step (f := fun _ => some true) (fun k => ?_) (Ev.now _)
    simp only [trustquorummake_Ints.l0]; rw [if_neg (by omega)]
  | d + 1, i, hi => by
    refine Ev.step (fun k => ?_) (ints_l0 hl d (i + 1) (by omega))
    simp only [trustquorummake_Ints.l0]
    rw [if_pos (by omega), if_pos (by omega), if_pos (by omega), if_pos trivial, upi (by omega), if_pos (by omega)]
theorem ints_ev {l : List Int} (hl : l.length ≤ 1073741824) : Ev (fun k => trustquorummake_Ints.f k l l) true := by
  have := ints_l0 hl l.length 0 (by omega)
  refine Ev.congr (fun k => ?_) this
  unfold trustquorummake_Ints.f
  rw [if_pos rfl]; rfl
theorem nm_l2 {n : Nat} {l m : List Int} (hl : l.length ≤ 1073741824) (x v y : Int) (c j : Nat) (ys : List Int) {R : Bool} (h : Ev (fun k => trustquorumlaw01_NodesetMeets.l1 k n l m x m m.length c ys ys.length (wrap64 ((j : Int) + 1))) R) :
    ∀ (d i : Nat) (b : Bool), i + d = l.length → (b && (l.drop i).all fun z => !missG y z) = decide (v < 0) → Ev (fun k => trustquorumlaw01_NodesetMeets.l2 k n l m x v y b m m.length c ys ys.length j l l.length i) R
  | 0, i, b, hi, hb => by
    rw [List.drop_of_length_le (by omega)] at hb
    simp only [List.all_nil, Bool.and_true] at hb
    refine Ev.step (fun k => ?_) h
    simp only [trustquorumlaw01_NodesetMeets.l2]
    rw [if_neg (by omega), hb, if_neg (by simp)]
  | d + 1, i, b, hi, hb => by
    have hlt : i < l.length := by omega
    rw [List.drop_eq_getElem_cons hlt, List.all_cons] at hb
    cases b with
    | false =>
      refine Ev.step (fun k => ?_) (nm_l2 hl x v y c j ys h d (i + 1) false (by omega) (by simpa using hb))
      simp only [trustquorumlaw01_NodesetMeets.l2]
      rw [if_pos (by omega), if_pos (by omega), if_pos (by omega), upi (by omega)]; rfl
    | true =>
      refine Ev.step (fun k => ?_) (nm_l2 hl x v y c j ys h d (i + 1) (!missG y l[i]) (by omega) (by simpa using hb))
      simp only [trustquorumlaw01_NodesetMeets.l2]
      rw [if_pos (by omega), if_pos (by omega), if_pos (by omega), rdg hlt, upi (by omega)]; rfl
theorem nm_l1 {n : Nat} {l m : List Int} (hl : l.length ≤ 1073741824) {s : Nat} (hs : s < 1024) (c : Nat) (ys : List Int) (hyl : ys.length ≤ 1073741824) (hall : ∀ z ∈ l, missG (s : Int) z = false) (hys : ∀ v ∈ ys, v = -1 ∨ ∃ k : Nat, v = (k : Int) ∧ k < 10 ∧ 2 ^ k ≤ s ∧ ∃ z ∈ l, missG ((s - 2 ^ k : Nat) : Int) z = true)
    {R : Bool} (h : Ev (fun k => trustquorumlaw01_NodesetMeets.l0 k n l m m m.length (wrap64 ((c : Int) + 1))) R) :
    ∀ (d j : Nat), j + d = ys.length → Ev (fun k => trustquorumlaw01_NodesetMeets.l1 k n l m s m m.length c ys ys.length j) R
  | 0, j, hj => by
    refine Ev.step (fun k => ?_) h
    simp only [trustquorumlaw01_NodesetMeets.l1]; rw [if_neg (by omega)]
  | d + 1, j, hj => by
    have hlt : j < ys.length := by omega
    have ih := nm_l1 hl hs c ys hyl hall hys h d (j + 1) (by omega)
    have ih' : Ev (fun k => trustquorumlaw01_NodesetMeets.l1 k n l m s m m.length c ys ys.length (wrap64 ((j : Int) + 1))) R := Ev.congr (fun k => by rw [upi (by omega)]) ih
    rcases hys ys[j] (List.getElem_mem hlt) with hv | ⟨v, hv, hv10, hle, z, hz, hm⟩
    · have h2 := nm_l2 (m := m) (n := n) hl (s : Int) (-1) (s : Int) c j ys ih' l.length 0 true (by omega) (by
        simp only [List.drop_zero, Bool.true_and]
        rw [show decide ((-1 : Int) < 0) = true from rfl, List.all_eq_true]
        intro z hz; rw [hall z hz]; rfl)
      refine Ev.step (fun k => ?_) (Ev.step (g := fun k => trustquorumlaw01_NodesetMeets.j2 k n l m s (-1) s m m.length c ys ys.length j) (fun k => by simp only [trustquorumlaw01_NodesetMeets.j2]; rfl) h2)
      simp only [trustquorumlaw01_NodesetMeets.l1]
      rw [if_pos (by omega), if_pos (by omega), if_pos (by omega), rdg hlt, hv, if_neg (by omega)]
    · have h2 := nm_l2 (m := m) (n := n) hl (s : Int) (v : Int) ((s - 2 ^ v : Nat) : Int) c j ys ih' l.length 0 true (by omega) (by
        simp only [List.drop_zero, Bool.true_and]
        rw [decide_eq_false (by omega)]
        cases ha : (l.all fun z => !missG ((s - 2 ^ v : Nat) : Int) z) with
        | false => rfl
        | true => have := List.all_eq_true.1 ha z hz; rw [hm] at this; cases this)
      have w : wrap64 ((s : Int) - shl .i64 1 (v : Int)) = ((s - 2 ^ v : Nat) : Int) := by
        rw [shl_pow (by omega)]
        generalize 2 ^ v = P at hle ⊢
        rw [wrap_of (by omega) (by omega)]; omega
      refine Ev.step (fun k => ?_) (Ev.step (g := fun k => trustquorumlaw01_NodesetMeets.j2 k n l m s v ((s - 2 ^ v : Nat) : Int) m m.length c ys ys.length j) (fun k => by simp only [trustquorumlaw01_NodesetMeets.j2]; rfl) h2)
      simp only [trustquorumlaw01_NodesetMeets.l1]
      rw [if_pos (by omega), if_pos (by omega), if_pos (by omega), rdg hlt, hv, if_pos (by omega), if_pos (by omega), w]
theorem meeting_eq {n : Nat} (hn : n ≤ 8) {l : List Int} (hl : ∀ x ∈ l, 0 ≤ x ∧ x < ((2 ^ n : Nat) : Int)) (hll : l.length ≤ 1024) : nodeset_Meeting.f l n = some (meetsL l n, 0) := by
  have hb : (l.any fun x => !belowB x (n : Int)) = false := by
    cases ha : (l.any fun x => !belowB x (n : Int)) with
    | false => rfl
    | true =>
      obtain ⟨x, hx, h⟩ := List.any_eq_true.1 ha
      have := hl x hx
      unfold belowB at h
      rw [shl_pow (by omega), decide_eq_true this.1, decide_eq_true this.2] at h
      cases h
  unfold nodeset_Meeting.f
  rw [if_neg (by omega), if_neg (by omega), hb, if_neg (by decide), if_neg (by omega), Int.toNat_natCast]; rfl
theorem nm_l0 {n : Nat} (hn : n ≤ 8) {l : List Int} (hl : ∀ x ∈ l, 0 ≤ x ∧ x < ((2 ^ n : Nat) : Int)) (hll : l.length ≤ 1024) (hml : (meetsL l n).length ≤ 1024) :
    ∀ (d i : Nat), i + d = (meetsL l n).length → Ev (fun k => trustquorumlaw01_NodesetMeets.l0 k n l (meetsL l n) (meetsL l n) (meetsL l n).length i) true
  | 0, i, hi => by
    have hms : ∀ x ∈ meetsL l n, 0 ≤ x ∧ x < ((2 ^ n : Nat) : Int) := fun x hx => by
      obtain ⟨s, rfl, h, _, _⟩ := meetsL_nat hn hx
      omega
    have e1 := meeting_eq hn hms hml
    have e2 : meetsL (meetsL l n) n = leastL l := meets_twice hn hl
    have e3 : nodeset_Least.f l = some (leastL l) := by unfold nodeset_Least.f; rw [if_pos (by omega)]
    have hlen := least_length l
    refine Ev.step (f := fun k => (trustquorummake_Ints.f k (leastL l) (leastL l)).bind fun t => if t = true then (trustquorumlaw01_awake.f k).bind fun t => some t else some false) (fun k => ?_) (Ev.bind (ints_ev (by omega)) (Ev.congr (fun k => if_pos rfl) (Ev.bind awake_ev (Ev.now _))))
    simp only [trustquorumlaw01_NodesetMeets.l0]
    rw [if_neg (by omega), e1]
    simp only [Option.bind_some, if_true]
    rw [e2, e3]; rfl
  | d + 1, i, hi => by
    have hlt : i < (meetsL l n).length := by omega
    have ih := nm_l0 hn hl hll hml d (i + 1) (by omega)
    have hx : (meetsL l n)[i] ∈ meetsL l n := List.getElem_mem hlt
    obtain ⟨s, es, _, hs, _⟩ := meetsL_nat hn hx
    have hx' := hx
    rw [es] at hx'
    have hnl : (nodesI (s : Int)).length ≤ 10 := by
      unfold nodesI
      rw [List.length_map]
      refine Nat.le_trans (List.length_filter_le _ _) ?_
      simp
    have h1 := nm_l1 (n := n) (m := meetsL l n) (by omega) hs i (nodesI (s : Int) ++ [-1]) (by simp; omega) (meets_l hn hl hx') (fun v hv => by
      rcases List.mem_append.1 hv with h | h
      · obtain ⟨k, rfl, hk, hb⟩ := mem_nodesI h
        rw [Int.toNat_natCast] at hb
        exact .inr ⟨k, rfl, hk, Nat.ge_two_pow_of_testBit hb, meets_tight hn hl hx' hk hb⟩
      · exact .inl (List.mem_singleton.1 h)) (Ev.congr (fun k => by rw [upi (by omega)]) ih) (nodesI (s : Int) ++ [-1]).length 0 (by omega)
    refine Ev.step (f := fun k => (trustquorumref01_Nodes.f k (s : Int)).bind fun t => if t.length < 17592186044416 then trustquorumlaw01_NodesetMeets.l1 k n l (meetsL l n) s (meetsL l n) (meetsL l n).length i (t ++ [-1]) (t ++ [-1]).length ((0 : Nat) : Int) else none) (fun k => ?_) (Ev.bind (refnodes_ev (s : Int)) (Ev.congr (fun k => if_pos (by omega)) h1))
    simp only [trustquorumlaw01_NodesetMeets.l0]
    rw [if_pos (by omega), if_pos (by omega), if_pos (by omega), rdg hlt, es]; rfl
theorem meets_length (n : Nat) (hn : n ≤ 8) (l : List Int) : (meetsL l n).length ≤ 1024 := by
  have h1 := least_length (meetG (leastL l) (2 ^ n) 0 [])
  have h2 : (meetG (leastL l) (2 ^ n) 0 []).length ≤ 2 ^ n := by
    rw [meetG_eq, List.nil_append, List.length_map]
    refine Nat.le_trans (List.length_filter_le _ _) ?_
    simp
  have h3 := pow_le_1024 n (by omega)
  unfold meetsL; omega
theorem nodesetMeets_true : trustquorumlaw01_NodesetMeets.Pure := by
  intro l0 _ _ _
  obtain ⟨tl, e0, hp0⟩ := tape_new l0
  obtain ⟨n, p1, e1, n0, n1, hp1⟩ := tape_Range hp0 1 8 (by omega) (by omega) (by omega)
  obtain ⟨n, rfl⟩ := Int.eq_ofNat_of_zero_le (show 0 ≤ n by omega)
  obtain ⟨xs, q, e2, hxl, hxs, hq⟩ := tape_Sets hp1 8 n (by omega) (by omega)
  have h := nm_l0 (n := n) (by omega) hxs (by omega) (meets_length n (by omega) xs) (meetsL xs n).length 0 (by omega)
  have e3 := meeting_eq (n := n) (by omega) hxs (by omega)
  refine Ev.rounds (g := fun k => trustquorumlaw01_NodesetMeets.f k l0) ?_
  refine Ev.congr (f := fun k => (trustquorummake_Sets.f k tl p1 8 n).bind fun b => (nodeset_Meeting.f b.1 n).bind fun c => if c.2 = 0 then trustquorumlaw01_NodesetMeets.l0 k n b.1 c.1 c.1 c.1.length 0 else some false) (fun k => ?_) (Ev.bind e2 (Ev.congr (fun k => ?_) h))
  · unfold trustquorumlaw01_NodesetMeets.f
    rw [e0]; simp only [Option.bind_some]; rw [e1]; rfl
  · rw [e3]; rfl
end Go.Proofs.YtfkpimjiaijmgaaDoor.Q
end
section
namespace Go.Proofs.YtfkpimjiaijmgaaDoor.Pure
open Go.RowKit Go.Proofs.YtfkpimjiaijmgaaDoor.G Go.Proofs.YtfkpimjiaijmgaaDoorW.PrintWords Go.Proofs.YtfkpimjiaijmgaaDoorW.PrintLast
/-- YOURS: ∀ (l0 : List Int), l0.length ≤ maxLen → l0.length * 8 ≤ 140737488351232 → (∀ x ∈ l0, (Lit.int .i64 x).wf = true) → ∃ k, trustquorumlaw01_NodesetMeets.f k l0 = some true
What it reaches (each with k first where it has rounds; `.mono`: more rounds tell the same; `.l0`, ..: its loops, with `.mono_l`): nodeset_below.f, nodeset_Valid.f, bits_OnesCount64.f, bits_OnesCount.f, nodeset_Size.f, nodeset_Next.f, cmp_Or_int.f, cmp_isNaN_int.f, cmp_Compare_int.f, nodeset_rank.f, nodeset_Compare.f, trustquorumref01_Valid.f, nodeset_Least.f, nodeset_Meeting.f, trustquorummake_Ints.f, nodeset_Has.f, nodeset_Nodes.f, strconv_Itoa.f, strings_Join.f, nodeset_Text.f, trustquorumlaw01_awake.f, trustquorummake_New.f, trustquorummake_Tape_N.f, trustquorummake_Sets.f, trustquorummake_Tape_Range.f, trustquorumref01_Has.f, trustquorumref01_Nodes.f, trustquorumlaw01_NodesetMeets.f -/
theorem NodesetMeets : trustquorumlaw01_NodesetMeets.Pure := Q.nodesetMeets_true
end Go.Proofs.YtfkpimjiaijmgaaDoor.Pure
end
section
namespace Go.Proofs.YtfkpimjiaijmgaaDoor.nodesetMeets
open Go.ChangeShapes Go.WideShapes Go.ChangeAt Go.RowKit
open Go.ChangeMaps (open_string shut_string)
set_option linter.unusedVariables false
theorem own : ownKnob Tryd.prog.godebug = none := by kernel_rfl
theorem laidOut : laidOutB Tryd.prog = true := by kernel_rfl
def IsRow (k : IntKind) (w : World) (a : Option Addr) (len cap : Nat) (zs : List Int) : Prop :=
  (a = none ∧ len = 0 ∧ cap = 0 ∧ zs = []) ∨
  ∃ x, a = some x ∧ len ≤ cap ∧ cap ≤ maxLen ∧ zs.length = cap ∧ (∀ i, i < zs.length → w.cell? (x.add i) = some (.int k (zs.getD i 0))) ∧ ∀ n ∈ zs, (Lit.int k n).wf = true
/-- The door's own heap meets the condition: three closed facts. -/
theorem door_met (os : Os) (args : Array Value) : laidMetH Tryd.prog Rows.nodesetMeetsRow.laid ((World.doorLaid Tryd.prog 400 os).forCall (fun _ _ => 0) ⟨#[], args, []⟩).memory :=
  laidMetH_of_parts3 (fuel := 8) (laidMet_of_run' 8 (by kernel_rfl) (by kernel_rfl)) (by kernel_rfl) (by kernel_rfl)
set_option maxRecDepth 100000 in
theorem lifted (os : Os) (started : os.Started) (H : Type) (enc : TypeId × Value → H) :
    ReturnsInHanded {} Tryd.checked os 5 .any (fun w args => (Rows.nodesetMeetsSpec.pre enc Tryd.prog Tryd.f5 [] false w args ∧ laidMetH Tryd.prog Rows.nodesetMeetsRow.laid w) ∧ sizedMet enc Tryd.prog Tryd.f5 (OpenSpec.ofChange Rows.nodesetMeetsSpec) false w args) (Rows.nodesetMeetsSpec.post enc Tryd.prog Tryd.f5 false true false false) := by
  refine returnsInHanded_of_change_and (C := Tryd.checked) (X := fun w _ => laidMetH Tryd.prog Rows.nodesetMeetsRow.laid w) (fun _ _ _ hh h => h.of_heap hh) own started (by kernel_rfl) Tryd.func5
    (ChangeSpec.witness_shaped (enc := enc) (C := Tryd.checked) (os := os) (X := fun w _ => laidMetH Tryd.prog Rows.nodesetMeetsRow.laid w) false (World.doorLaid Tryd.prog 400 os) #[.slice none 0 0] 8 rfl (World.shaped_of_RefB (by kernel_rfl) (by kernel_rfl)) (by kernel_rfl) (by kernel_rfl) (by kernel_rfl) (door_met os _)) ?_
  intro W base args ds gs before hval0 hW hcnd hsz0 _ _
  have hsz : (DataW.weightsEach Tryd.prog (Tryd.f5.params.toList ++ Rows.nodesetMeetsSpec.plain.varTypes Tryd.prog) (ds ++ gs)).all (· ≤ reachBytes) = true := hsz0
  have hval : ∀ (j : Nat) t v, Tryd.f5.params[j]? = some t → args[j]? = some v → Value.okWide Tryd.prog W .any base t v := hval0
  have hW' := hW
  obtain ⟨p, q, hA0, hV, rfl, hfz, hnd⟩ := hW
  have hA : DataW.TrodAll enc Tryd.prog W 0 (fun _ => true) true Tryd.f5.params.toList args.toList ds p := hA0
  rw [Tryd.params5] at hA hval hsz
  obtain ⟨v0, vs0, d0, ds0, p0, q0, hargs, rfl, rfl, h0, r0⟩ := trodAll_cons hA
  obtain ⟨rfl, rfl, rfl⟩ := trodAll_nil r0
  obtain rfl : args = #[v0] := by cases args; simp_all
  obtain ⟨rfl, rfl⟩ := trodVars_none hV
  obtain ⟨a0, len0, cap0, rfl⟩ := okWide_slice Tryd.underlying27 (hval 0 27 v0 rfl rfl)
  have k0 := h0
  have lt0 : ∀ x ∈ p0, x.block < W.heap.size := by obtain ⟨m, hm⟩ := k0; exact DataW.trod_lt m _ _ _ hm
  obtain ⟨z0, w0⟩ : ∃ zs, IsRow .i64 W a0 len0 cap0 zs := by
    obtain ⟨fuel, hf⟩ := h0
    rcases open_ints Tryd.underlying27 Tryd.underlying3 (by kernel_rfl) hf with ⟨hcs, _⟩ | ⟨x, l, c, zs, hcs, _, hl, hm, hz, _, hcell, hwz⟩
    · simp [Value.cells] at hcs
      obtain ⟨rfl, rfl, rfl⟩ := hcs
      exact ⟨[], .inl ⟨rfl, rfl, rfl, rfl⟩⟩
    · simp [Value.cells] at hcs
      obtain ⟨rfl, rfl, rfl⟩ := hcs
      exact ⟨zs, .inr ⟨_, rfl, hl, hm, by simpa using hz, hcell, hwz⟩⟩
  have y0 : len0 * 8 ≤ 140737488351232 := Go.Proofs.YtfkpimjiaijmgaaDoorW.PrintWords.sized_ints hsz (j := 0) (t := 27) rfl rfl Tryd.underlying27 Tryd.underlying3 (by kernel_rfl) (by kernel_rfl) h0
  clear hA0 hval0 hsz0 hsz
  refine (G.trustquorumlaw01_NodesetMeets.walk Pure.NodesetMeets a0 len0 cap0 z0 W w0 y0).mono fun e W' ⟨he, bel⟩ => ?_
  subst he
  exact ⟨_, rfl, _, _, _, [], _, [], hW', trodAll_mk1 (shut_bool Tryd.underlying4 _), (trodAll_cons_mk (Below.trod laidOut (by kernel_rfl) (of_decide_eq_true (by kernel_rfl)) k0 bel lt0) trodAll_mk0), rfl, bel.frame _, fun h => by cases h⟩
theorem over : Rows.nodesetMeetsRow.holds Tryd.pinned (OpenSpec.ofChange Rows.nodesetMeetsSpec) :=
  OpenClaim.holds_of_wide 5 Tryd.f5 rfl rfl rfl rfl rfl rfl rfl ⟨rfl, rfl, rfl, rfl, rfl⟩ rfl rfl rfl rfl rfl (by kernel_rfl) Tryd.func5 (by kernel_rfl)
    (of_decide_eq_true (by kernel_rfl)) (by unfold Func.isWrapper; first | (rw [if_pos (by decide +kernel)]; kernel_rfl) | (rw [if_neg (by decide +kernel)]; exact ⟨rfl, rfl⟩))
    (fun os started H enc _ => lifted os started H enc)
theorem proved : Rows.NodesetMeetsSaid := over
end Go.Proofs.YtfkpimjiaijmgaaDoor.nodesetMeets
namespace Go.Proofs.YtfkpimjiaijmgaaDoor
/-- The tied card, for the claim. -/
theorem nodesetMeets_holds : Rows.NodesetMeetsCardSaid :=
  Claim7.holds_tied_plain_at .later [] [.data, .data, .data] true (true, "e8da6328cacec61c5287b810aaa4802ec8fe0ed63228956437a4b3d0edbd7f4d") false
    nodesetMeets.proved (fun _ h => by cases h) (by kernel_rfl) (fun _ h => by cases h) nodesetMeets_row_tie rfl ⟨rfl, rfl⟩ (by kernel_rfl) rfl
    (fun f fn hf hfn => by
      obtain rfl : f = 5 := Option.some.inj ((show Tryd.prog.funcNamed "trustquorum/trustquorumlaw01.NodesetMeets" = some 5 by kernel_rfl).symm.trans hf) |>.symm
      obtain rfl : fn = Tryd.f5 := (Option.some.inj (Tryd.func5.symm.trans hfn)).symm
      exact ⟨by kernel_rfl, fun j t ht => by
        rw [Tryd.params5] at ht
        have hm : t ∈ [27] := by simpa using Array.mem_of_getElem? ht
        have hall : ([27].all fun u => !Tryd.prog.wantsStandIn u) = true := by kernel_rfl
        exact (show Tryd.prog.wantsStandIn t = false by simpa using List.all_eq_true.1 hall t hm)⟩)
    (by kernel_rfl)
end Go.Proofs.YtfkpimjiaijmgaaDoor
end
#print axioms Go.Proofs.YtfkpimjiaijmgaaDoor.nodesetMeets_holds
