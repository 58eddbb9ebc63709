/- NodesetLeast: the texts of the claim, put together (part 3 of 3). The law is proved in the last one: it takes no condition beyond the statement's own. -/
import Derived.Test.YtfkpimjiaijmgaaDoorRows
import Derived.Test.YtfkpimjiaijmgaaDoorCards
import Derived.Test.YtfkpimjiaijmgaaDoorTie
import Derived.SevenTiedAt
import Derived.LaidMore
import Derived.LaidHandle
import Derived.LaidLaws
import Derived.Stop.Joined
import Derived.WalkKit
import Derived.ProofKit
import Derived.OpenShut
import Derived.ShutString
import Derived.ChangeOld
import Derived.Below
import Derived.SizedLaws
import Derived.Test.YtfkpimjiaijmgaaDoorCNodesetLeast1
section
namespace Go.Proofs.YtfkpimjiaijmgaaDoor.G
open Go.RowKit Go.Proofs.YtfkpimjiaijmgaaDoorW.PrintWords Go.Proofs.YtfkpimjiaijmgaaDoorW.PrintLast Go.Proofs.YtfkpimjiaijmgaaDoorW.PrintMore
attribute [local go_sem] max2_int min2_int max_two min_two max_three min_three max_four min_four   -- for this text's walks alone
set_option linter.unusedVariables false
set_option linter.unusedSimpArgs false
def trustquorummake_In.l0 : Nat → Int → List Int → Int → Int → Option (Bool)
  | 0, _, _, _, _ => none
  | k + 1, x1, x7, x8, x9 => if x9 < x8 then (if 0 ≤ x9 then (if x9 < (x7.length : Int) then (if x1 = (rd x7 x9) then (some true) else (trustquorummake_In.l0 k x1 x7 x8 (wrap64 (x9 + 1)))) else (none)) else (none)) else (some false)
def trustquorummake_In.f (k : Nat) (l0 : List Int) (a1 : Int) : Option (Bool) := trustquorummake_In.l0 k a1 l0 (l0.length : Int) 0
set_option maxHeartbeats 8000000 in
set_option maxRecDepth 100000 in
theorem trustquorummake_In.calls (k : Nat) (A0 : Option Addr) (c0 : Nat) (l0 : List Int) (a1 : Int) (r : Bool) (w : World) (hr0 : Kd.C (Kd.int .i64) w A0 l0.length l0) (hc0 : l0.length ≤ c0) (h : trustquorummake_In.f k l0 a1 = some r) :
    Calls Tryd.prog 16 #[.slice A0 l0.length c0, .int .i64 a1] w fun e w' => e = .returned (.bool r) ∧ Drawn0 w w' := by
  have HR0 := Aside0.mk hr0
  have HC0 := Aside0.mk hc0
  clear hr0 hc0
  have H : (trustquorummake_In.l0 k a1 l0 (l0.length : Int) 0) = some r := h
  clear h
  have H' := Aside0.mk H
  clear H
  go_enter Tryd.func16, Tryd.ntmps16
  go_wp2
  go_loopg [9] k (fun kq v9 w' => ∃ (x9_1 : Int), v9 = .int .i64 x9_1 ∧ Aside0 (trustquorummake_In.l0 kq a1 l0 (l0.length : Int) x9_1 = some r) ∧ Aside0 (kq ≤ k) ∧ Drawn0 w w')
  case atStart => exact ⟨(0), (by first | rfl | (simp; done) | (simp [*]; done)), H', ⟨Nat.le_refl _⟩, by repeat (first | exact Drawn0.refl _ | apply Drawn0.step)⟩
  case round =>
    clear H'
    try clear c1
    try clear p2
    obtain ⟨x9_1, rfl, HA, HK1, ⟨m1, rfl⟩⟩ := hrel
    cases gk with
    | zero => exact absurd HA.out (by simp [trustquorummake_In.l0])
    | succ k1 =>
      have H := HA.out
      clear HA
      simp only [trustquorummake_In.l0] at H
      by_cases c3 : x9_1 < (l0.length : Int)
      · rw [if_pos c3] at H
        have c3b0 : decide (x9_1 < (l0.length : Int)) = true := decide_eq_true c3
        clear c3
        by_cases c4 : 0 ≤ x9_1
        · rw [if_pos c4] at H
          have c4b0 : decide (0 ≤ x9_1) = true := decide_eq_true c4
          clear c4
          by_cases c5 : x9_1 < (l0.length : Int)
          · rw [if_pos c5] at H
            have c5b0 : decide (x9_1 < (l0.length : Int)) = true := decide_eq_true c5
            clear c5
            by_cases c6 : a1 = (rd l0 x9_1)
            · rw [if_pos c6] at H
              have c6b0 : (a1 == (rd l0 x9_1)) = true := beq_iff_eq.mpr c6
              have c6b1 : (a1 != (rd l0 x9_1)) = false := bne_eq_false_iff_eq.mpr c6
              clear c6
              obtain rfl := Option.some.inj H
              have p177 : 0 ≤ (x9_1 : Int) := of_decide_eq_true (by first | (with_reducible assumption) | assumption)
              have q177 : x9_1 < (l0.length : Int) := of_decide_eq_true (by first | (with_reducible assumption) | assumption)
              obtain ⟨ad177, e177, hx177_0⟩ := Kd.at_int HR0.out x9_1 p177 q177
              cases e177
              replace p177 := eq_true p177
              replace q177 := eq_true q177
              go_wp2
              go_ret
              exact ⟨by first | rfl | (simp; done) | (simp [*]; done), by repeat (first | exact Drawn0.refl _ | apply Drawn0.step)⟩
            · rw [if_neg c6] at H
              have c6b0 : (a1 == (rd l0 x9_1)) = false := beq_eq_false_iff_ne.mpr c6
              have c6b1 : (a1 != (rd l0 x9_1)) = true := bne_iff_ne.mpr c6
              have H' := Aside0.mk H
              clear H
              have p177 : 0 ≤ (x9_1 : Int) := of_decide_eq_true (by first | (with_reducible assumption) | assumption)
              have q177 : x9_1 < (l0.length : Int) := of_decide_eq_true (by first | (with_reducible assumption) | assumption)
              obtain ⟨ad177, e177, hx177_0⟩ := Kd.at_int HR0.out x9_1 p177 q177
              cases e177
              replace p177 := eq_true p177
              replace q177 := eq_true q177
              go_wp2
              go_roundg k1
              case measure => have := HK1.out; omega
              case rel => exact ⟨(wrap64 (x9_1 + 1)), (by first | rfl | (simp; done) | (simp [*]; done)), H', ⟨by have := HK1.out; omega⟩, by repeat (first | exact Drawn0.refl _ | apply Drawn0.step)⟩
          · rw [if_neg c5] at H
            exact absurd H (by simp)
        · rw [if_neg c4] at H
          exact absurd H (by simp)
      · rw [if_neg c3] at H
        have c3b0 : decide (x9_1 < (l0.length : Int)) = false := decide_eq_false c3
        clear c3
        obtain rfl := Option.some.inj H
        go_wp2
        go_ret
        exact ⟨by first | rfl | (simp; done) | (simp [*]; done), by repeat (first | exact Drawn0.refl _ | apply Drawn0.step)⟩
mutual
def trustquorumlaw01_NodesetLeast.l0 : Nat → List Int → List Int → List Int → Int → Int → Option (Bool)
  | 0, _, _, _, _, _ => none
  | k + 1, x4, x5, x23, x24, x25 => if x25 < x24 then (if 0 ≤ x25 then (if x25 < (x23.length : Int) then (trustquorumlaw01_NodesetLeast.l1 k x4 x5 x25 (rd x23 x25) x23 x24 x25 x5 (x5.length : Int) 0) else (none)) else (none)) else (trustquorumlaw01_NodesetLeast.l2 k x5 x4 (x4.length : Int) 0)
def trustquorumlaw01_NodesetLeast.l1 : Nat → List Int → List Int → Int → Int → List Int → Int → Int → List Int → Int → Int → Option (Bool)
  | 0, _, _, _, _, _, _, _, _, _, _ => none
  | k + 1, x4, x5, x6, x7, x23, x24, x25, x30, x31, x32 => if x32 < x31 then (if 0 ≤ x32 then (if x32 < (x30.length : Int) then (if x6 = x32 then (trustquorumlaw01_NodesetLeast.l1 k x4 x5 x6 x7 x23 x24 x25 x30 x31 (wrap64 (x32 + 1))) else (if (Go.bits .and .i64 x7 (rd x30 x32)) = x7 then (some false) else (trustquorumlaw01_NodesetLeast.l1 k x4 x5 x6 x7 x23 x24 x25 x30 x31 (wrap64 (x32 + 1))))) else (none)) else (none)) else ((trustquorummake_In.f k x4 x7).bind fun t192 => (if t192 = true then (trustquorumlaw01_NodesetLeast.l0 k x4 x5 x23 x24 (wrap64 (x25 + 1))) else (some false)))
def trustquorumlaw01_NodesetLeast.l2 : Nat → List Int → List Int → Int → Int → Option (Bool)
  | 0, _, _, _, _ => none
  | k + 1, x5, x53, x54, x55 => if x55 < x54 then (if 0 ≤ x55 then (if x55 < (x53.length : Int) then (trustquorumlaw01_NodesetLeast.l3 k x5 (rd x53 x55) false x53 x54 x55 x5 (x5.length : Int) 0) else (none)) else (none)) else ((trustquorumlaw01_awake.f k).bind fun t193 => (some t193))
def trustquorumlaw01_NodesetLeast.l3 : Nat → List Int → Int → Bool → List Int → Int → Int → List Int → Int → Int → Option (Bool)
  | 0, _, _, _, _, _, _, _, _, _ => none
  | k + 1, x5, x11, x12, x53, x54, x55, x59, x60, x61 => if x61 < x60 then (if 0 ≤ x61 then (if x61 < (x59.length : Int) then (if x12 = true then (trustquorumlaw01_NodesetLeast.l3 k x5 x11 true x53 x54 x55 x59 x60 (wrap64 (x61 + 1))) else (trustquorumlaw01_NodesetLeast.l3 k x5 x11 ((Go.bits .and .i64 (rd x59 x61) x11) == (rd x59 x61)) x53 x54 x55 x59 x60 (wrap64 (x61 + 1)))) else (none)) else (none)) else (if x12 = true then (trustquorumlaw01_NodesetLeast.l2 k x5 x53 x54 (wrap64 (x55 + 1))) else (some false))
end
def trustquorumlaw01_NodesetLeast.f (k : Nat) (l0 : List Int) : Option (Bool) := (trustquorummake_New.f l0).bind fun bt178 => ((trustquorummake_Tape_Range.f bt178.1 bt178.2 1 9).bind fun bt181 => ((trustquorummake_Sets.f k bt178.1 bt181.2 12 bt181.1).bind fun bt183 => ((nodeset_Least.f bt183.1).bind fun t187 => (trustquorumlaw01_NodesetLeast.l0 k bt183.1 t187 t187 (t187.length : Int) 0))))
set_option maxHeartbeats 8000000 in
set_option maxRecDepth 100000 in
theorem trustquorumlaw01_NodesetLeast.calls (k : Nat) (A0 : Option Addr) (c0 : Nat) (l0 : List Int) (r : Bool) (w : World) (hr0 : Kd.C (Kd.int .i64) w A0 l0.length l0) (hc0 : l0.length ≤ c0) (h : trustquorumlaw01_NodesetLeast.f k l0 = some r) :
    Calls Tryd.prog 4 #[.slice A0 l0.length c0] w fun e w' => e = .returned (.bool r) ∧ Below w.heap.size w w' := by
  have HR0 := Aside0.mk hr0
  have HC0 := Aside0.mk hc0
  clear hr0 hc0
  have HB := Aside0.mk (Below.refl w.heap.size w)
  have H : ((trustquorummake_New.f l0).bind fun bt178 => ((trustquorummake_Tape_Range.f bt178.1 bt178.2 1 9).bind fun bt181 => ((trustquorummake_Sets.f k bt178.1 bt181.2 12 bt181.1).bind fun bt183 => ((nodeset_Least.f bt183.1).bind fun t187 => (trustquorumlaw01_NodesetLeast.l0 k bt183.1 t187 t187 (t187.length : Int) 0))))) = some r := h
  clear h
  replace H := Option.bind_eq_some_iff.mp H
  obtain ⟨⟨t178, t179⟩, A20, H⟩ := H
  replace H : ((trustquorummake_Tape_Range.f t178 t179 1 9).bind fun bt181 => ((trustquorummake_Sets.f k t178 bt181.2 12 bt181.1).bind fun bt183 => ((nodeset_Least.f bt183.1).bind fun t187 => (trustquorumlaw01_NodesetLeast.l0 k bt183.1 t187 t187 (t187.length : Int) 0)))) = some r := H
  have A2 := Aside0.mk A20
  clear A20
  replace H := Option.bind_eq_some_iff.mp H
  obtain ⟨⟨t181, t182⟩, A30, H⟩ := H
  replace H : ((trustquorummake_Sets.f k t178 t182 12 t181).bind fun bt183 => ((nodeset_Least.f bt183.1).bind fun t187 => (trustquorumlaw01_NodesetLeast.l0 k bt183.1 t187 t187 (t187.length : Int) 0))) = some r := H
  have A3 := Aside0.mk A30
  clear A30
  replace H := Option.bind_eq_some_iff.mp H
  obtain ⟨⟨t183, t186⟩, A40, H⟩ := H
  replace H : ((nodeset_Least.f t183).bind fun t187 => (trustquorumlaw01_NodesetLeast.l0 k t183 t187 t187 (t187.length : Int) 0)) = some r := H
  have A4 := Aside0.mk A40
  clear A40
  replace H := Option.bind_eq_some_iff.mp H
  obtain ⟨t187, A50, H⟩ := H
  replace H : (trustquorumlaw01_NodesetLeast.l0 k t183 t187 t187 (t187.length : Int) 0) = some r := H
  have A5 := Aside0.mk A50
  clear A50
  have H' := Aside0.mk H
  clear H
  go_enter Tryd.func4, Tryd.ntmps4
  go_wp2_with (first | ((with_reducible refine gate_callee (f := 12) rfl ?_); refine goesL_ (some 16) rfl rfl Tryd.func12 (by kernel_rfl) rfl #[.slice A0 l0.length c0] rfl (by (try simp only [List.map_toArray, List.map_cons, List.map_nil]); first | done | rfl | (simp only [List.length_drop, List.length_take]; rfl)) ?_; (with_reducible refine (trustquorummake_New.calls _ _ l0 t178 t179 w _ ?side1 ?side2 ?side3 A2.out).mono ?_); (case side1 => repeat (first | (with_reducible first | exact HB.out | apply below_alloc | apply pw_below_drewN | apply below_drew1) | exact HB.out)); (case side2 => exact HR0.out); (case side3 => exact HC0.out); rintro e w6 ⟨g180, rfl, hi, hb, hb2⟩; refine ⟨_, rfl, ?_⟩; have n0_ := Aside0.mk (hb); have n1_ := Aside0.mk (hi); clear HB; have HB := n0_; have HI180 := n1_; clear n0_ n1_; (try clear hb); (try clear hb2); (try clear hk); (try clear hi)) | ((with_reducible refine gate_callee (f := 14) rfl ?_); refine goesL_ (some 19) rfl rfl Tryd.func14 (by kernel_rfl) rfl #[.pointer (some ⟨g180, 0, none⟩), .int .i64 1, .int .i64 9] rfl (by (try simp only [List.map_toArray, List.map_cons, List.map_nil]); first | done | rfl | (simp only [List.length_drop, List.length_take]; rfl)) ?_; (with_reducible refine (trustquorummake_Tape_Range.calls g180 t178 t179 1 9 t181 t182 w _ ?side1 ?side2 A3.out).mono ?_); (case side1 => repeat (first | (with_reducible first | exact HI180.out | apply IsS51.alloc | apply IsS51.drewN | apply IsS51.drew | apply IsS51.set_1) | exact HI180.out)); (case side2 => repeat (first | (with_reducible first | exact HB.out | apply below_alloc | apply pw_below_drewN | apply below_drew1 | refine below_set ?_ (IsS51.ge HI180.out)) | exact HB.out)); rintro e w7 ⟨rfl, hi, hb, hk⟩; refine ⟨_, rfl, ?_⟩; have n0_ := Aside0.mk (hb); have n1_ := Aside0.mk (hi); clear HB; clear HI180; have HB := n0_; have HI180 := n1_; clear n0_ n1_; (try clear hb); (try clear hb2); (try clear hk); (try clear hi)) | ((with_reducible refine gate_callee (f := 13) rfl ?_); refine goesL_ (some 20) rfl rfl Tryd.func13 (by kernel_rfl) rfl #[.pointer (some ⟨g180, 0, none⟩), .int .i64 12, .int .i64 t181] rfl (by (try simp only [List.map_toArray, List.map_cons, List.map_nil]); first | done | rfl | (simp only [List.length_drop, List.length_take]; rfl)) ?_; (with_reducible refine (trustquorummake_Sets.calls k g180 t178 t182 12 t181 t183 t186 w _ ?side1 ?side2 A4.out).mono ?_); (case side1 => repeat (first | (with_reducible first | exact HI180.out | apply IsS51.alloc | apply IsS51.drewN | apply IsS51.drew | apply IsS51.set_1) | exact HI180.out)); (case side2 => repeat (first | (with_reducible first | exact HB.out | apply below_alloc | apply pw_below_drewN | apply below_drew1 | refine below_set ?_ (IsS51.ge HI180.out)) | exact HB.out)); rintro e w8 ⟨v184, rfl, ho0, hi, hb, hk⟩; refine ⟨_, rfl, ?_⟩; have n0_ := Aside0.mk (Kd.R_lower ho0 (below_size (by repeat (first | (with_reducible first | exact HB.out | apply below_alloc | apply pw_below_drewN | apply below_drew1 | refine below_set ?_ (IsS51.ge HI180.out)) | exact HB.out)))); have n1_ := Aside0.mk (hb); have n2_ := Aside0.mk (hi); clear HB; clear HI180; have HO185 := n0_; have HB := n1_; have HI180 := n2_; clear n0_ n1_ n2_; (try clear hb); (try clear hb2); (try clear hk); (try clear hi); (try clear ho0); obtain ⟨Ao9, co9, eo9⟩ := Kd.R_slice HO185.out; subst eo9) | ((with_reducible refine gate_callee (f := 15) rfl ?_); refine goesL_ (some 22) rfl rfl Tryd.func15 (by kernel_rfl) rfl #[.slice Ao9 t183.length co9] rfl (by (try simp only [List.map_toArray, List.map_cons, List.map_nil]); first | done | rfl | (simp only [List.length_drop, List.length_take]; rfl)) ?_; (with_reducible refine (nodeset_Least.calls _ _ t183 t187 _ ?side1 ?side2 A5.out).mono ?_); (case side1 => repeat (first | exact (Kd.R_reads' HO185.out).2.2 | (with_reducible refine Kd.C_alloc ?_ _) | (with_reducible refine Kd.C_drewN ?_ _) | (with_reducible refine Kd.C_drew ?_))); (case side2 => exact (Kd.R_reads' HO185.out).2.1); rintro e w10 ⟨v188, rfl, ho0, hb⟩; refine ⟨_, rfl, ?_⟩; have n0_ := Aside0.mk (Kd.R_elder' (by (with_reducible repeat (first | apply Kd.R_alloc | apply Kd.R_drewN | apply Kd.R_drew)); exact HO185.out) (Kd.R_base ho0) hb); have n1_ := Aside0.mk (Kd.R_lower (Kd.R_new' ho0 (Kd.R_lt (by (with_reducible repeat (first | apply Kd.R_alloc | apply Kd.R_drewN | apply Kd.R_drew)); exact HO185.out))) (below_size (by repeat (first | (with_reducible first | exact HB.out | apply below_alloc | apply pw_below_drewN | apply below_drew1 | refine below_set ?_ (IsS51.ge HI180.out)) | exact HB.out)))); have n2_ := Aside0.mk (IsS51.below (by repeat (first | (with_reducible first | exact HI180.out | apply IsS51.alloc | apply IsS51.drewN | apply IsS51.drew | apply IsS51.set_1) | exact HI180.out)) hb); have n3_ := Aside0.mk (below_step (by repeat (first | (with_reducible first | exact HB.out | apply below_alloc | apply pw_below_drewN | apply below_drew1 | refine below_set ?_ (IsS51.ge HI180.out)) | exact HB.out)) hb); clear HO185; clear HI180; clear HB; have HO185 := n0_; have HO189 := n1_; have HI180 := n2_; have HB := n3_; clear n0_ n1_ n2_ n3_; (try clear hb); (try clear hb2); (try clear hk); (try clear hi); (try clear ho0); obtain ⟨Ao11, co11, eo11⟩ := Kd.R_slice HO189.out; subst eo11))
  go_loopg [25] k (fun kq v25 w' => ∃ (x25_1 : Int), v25 = .int .i64 x25_1 ∧ Aside0 (trustquorumlaw01_NodesetLeast.l0 kq t183 t187 t187 (t187.length : Int) x25_1 = some r) ∧ Aside0 (kq ≤ k) ∧ Aside0 (Kd.R (Kd.int .i64) 3 w' w.heap.size (fun k_ => some k_ ≠ ((.slice Ao11 t187.length co11) : Value).ownBlock ∧ some k_ ≠ ((.slice Ao11 t187.length co11) : Value).ownBlock) (.slice Ao9 t183.length co9) t183) ∧ Aside0 (Kd.R (Kd.int .i64) 3 w' w.heap.size (fun k_ => some k_ ≠ ((.slice Ao9 t183.length co9) : Value).ownBlock) (.slice Ao11 t187.length co11) t187) ∧ Aside0 (Kd.R (Kd.int .i64) 3 w' w.heap.size (fun k_ => some k_ ≠ ((.slice Ao9 t183.length co9) : Value).ownBlock) (.slice Ao11 t187.length co11) t187) ∧ Aside0 (Below w.heap.size w w'))
  case atStart => exact ⟨(0), (by first | rfl | (simp; done) | (simp [*]; done)), H', ⟨Nat.le_refl _⟩, ⟨by (with_reducible repeat (first | apply Kd.R_alloc | apply Kd.R_drewN | apply Kd.R_drew)); exact Kd.R_mono HO185.out (fun _ hk => ⟨hk.2, hk.2⟩)⟩, ⟨by (with_reducible repeat (first | apply Kd.R_alloc | apply Kd.R_drewN | apply Kd.R_drew)); exact Kd.R_mono HO189.out (fun _ hk => hk.2)⟩, ⟨by (with_reducible repeat (first | apply Kd.R_alloc | apply Kd.R_drewN | apply Kd.R_drew)); exact Kd.R_mono HO189.out (fun _ hk => hk.2)⟩, ⟨by repeat (first | (with_reducible first | exact HB.out | apply below_alloc | apply pw_below_drewN | apply below_drew1 | refine below_set ?_ (IsS51.ge HI180.out)) | exact HB.out)⟩⟩
  case round =>
    clear H'
    try clear c1
    try clear p2
    try clear c4
    obtain ⟨x25_1, rfl, HA, HK1, HO_4, HO_5, HO_23, HB⟩ := hrel
    cases gk with
    | zero => exact absurd HA.out (by simp [trustquorumlaw01_NodesetLeast.l0])
    | succ k1 =>
      have H := HA.out
      clear HA
      simp only [trustquorumlaw01_NodesetLeast.l0] at H
      by_cases c12 : x25_1 < (t187.length : Int)
      · rw [if_pos c12] at H
        have c12b0 : decide (x25_1 < (t187.length : Int)) = true := decide_eq_true c12
        clear c12
        by_cases c13 : 0 ≤ x25_1
        · rw [if_pos c13] at H
          have c13b0 : decide (0 ≤ x25_1) = true := decide_eq_true c13
          clear c13
          by_cases c14 : x25_1 < (t187.length : Int)
          · rw [if_pos c14] at H
            have c14b0 : decide (x25_1 < (t187.length : Int)) = true := decide_eq_true c14
            clear c14
            have H' := Aside0.mk H
            clear H
            have p190 : 0 ≤ (x25_1 : Int) := of_decide_eq_true (by first | (with_reducible assumption) | assumption)
            have q190 : x25_1 < (t187.length : Int) := of_decide_eq_true (by first | (with_reducible assumption) | assumption)
            obtain ⟨ad190, e190, hx190_0⟩ := Kd.at_int (Kd.R_reads' HO_23.out).2.2 x25_1 p190 q190
            cases e190
            replace p190 := eq_true p190
            replace q190 := eq_true q190
            go_wp2
            go_loopg [32] k1 (fun kq v32 w' => ∃ (x32_2 : Int), v32 = .int .i64 x32_2 ∧ Aside0 (trustquorumlaw01_NodesetLeast.l1 kq t183 t187 x25_1 (rd t187 x25_1) t187 (t187.length : Int) x25_1 t187 (t187.length : Int) x32_2 = some r) ∧ Aside0 (kq ≤ k1) ∧ Aside0 (Kd.R (Kd.int .i64) 3 w' w.heap.size (fun k_ => some k_ ≠ ((.slice (some ad190) t187.length co11) : Value).ownBlock ∧ some k_ ≠ ((.slice (some ad190) t187.length co11) : Value).ownBlock ∧ some k_ ≠ ((.slice (some ad190) t187.length co11) : Value).ownBlock) (.slice Ao9 t183.length co9) t183) ∧ Aside0 (Kd.R (Kd.int .i64) 3 w' w.heap.size (fun k_ => some k_ ≠ ((.slice Ao9 t183.length co9) : Value).ownBlock) (.slice (some ad190) t187.length co11) t187) ∧ Aside0 (Kd.R (Kd.int .i64) 3 w' w.heap.size (fun k_ => some k_ ≠ ((.slice Ao9 t183.length co9) : Value).ownBlock) (.slice (some ad190) t187.length co11) t187) ∧ Aside0 (Kd.R (Kd.int .i64) 3 w' w.heap.size (fun k_ => some k_ ≠ ((.slice Ao9 t183.length co9) : Value).ownBlock) (.slice (some ad190) t187.length co11) t187) ∧ Aside0 (Below w.heap.size w w'))
            case atStart => exact ⟨(0), (by first | rfl | (simp; done) | (simp [*]; done)), H', ⟨Nat.le_refl _⟩, ⟨by (with_reducible repeat (first | apply Kd.R_alloc | apply Kd.R_drewN | apply Kd.R_drew)); exact Kd.R_mono HO_4.out (fun _ hk => ⟨hk.1, ⟨hk.2, hk.1⟩⟩)⟩, ⟨by (with_reducible repeat (first | apply Kd.R_alloc | apply Kd.R_drewN | apply Kd.R_drew)); exact HO_5.out⟩, ⟨by (with_reducible repeat (first | apply Kd.R_alloc | apply Kd.R_drewN | apply Kd.R_drew)); exact HO_23.out⟩, ⟨by (with_reducible repeat (first | apply Kd.R_alloc | apply Kd.R_drewN | apply Kd.R_drew)); exact HO_5.out⟩, ⟨by repeat (first | (with_reducible first | exact HB.out | apply below_alloc | apply pw_below_drewN | apply below_drew1) | exact HB.out)⟩⟩
            case round =>
              clear H'
              try clear c1
              try clear p1
              try clear q1
              try clear hx1
              try clear p2
              try clear c4
              try clear c12
              try clear c12b0
              try clear c13
              try clear c13b0
              try clear c14
              try clear c14b0
              try clear hx190_0
              try clear p190
              try clear p2
              try clear q190
              obtain ⟨x32_2, rfl, HA, HK2, HO_4, HO_5, HO_23, HO_30, HB⟩ := hrel
              cases gk with
              | zero => exact absurd HA.out (by simp [trustquorumlaw01_NodesetLeast.l1])
              | succ k2 =>
                have H := HA.out
                clear HA
                simp only [trustquorumlaw01_NodesetLeast.l1] at H
                by_cases c15 : x32_2 < (t187.length : Int)
                · rw [if_pos c15] at H
                  have c15b0 : decide (x32_2 < (t187.length : Int)) = true := decide_eq_true c15
                  clear c15
                  by_cases c16 : 0 ≤ x32_2
                  · rw [if_pos c16] at H
                    have c16b0 : decide (0 ≤ x32_2) = true := decide_eq_true c16
                    clear c16
                    by_cases c17 : x32_2 < (t187.length : Int)
                    · rw [if_pos c17] at H
                      have c17b0 : decide (x32_2 < (t187.length : Int)) = true := decide_eq_true c17
                      clear c17
                      by_cases c18 : x25_1 = x32_2
                      · rw [if_pos c18] at H
                        have c18b0 : (x25_1 == x32_2) = true := beq_iff_eq.mpr c18
                        have c18b1 : (x25_1 != x32_2) = false := bne_eq_false_iff_eq.mpr c18
                        clear c18
                        have H' := Aside0.mk H
                        clear H
                        have p191 : 0 ≤ (x32_2 : Int) := of_decide_eq_true (by first | (with_reducible assumption) | assumption)
                        have q191 : x32_2 < (t187.length : Int) := of_decide_eq_true (by first | (with_reducible assumption) | assumption)
                        obtain ⟨ad191, e191, hx191_0⟩ := Kd.at_int (Kd.R_reads' HO_30.out).2.2 x32_2 p191 q191
                        obtain rfl : ad190 = ad191 := (by injection e191)
                        replace p191 := eq_true p191
                        replace q191 := eq_true q191
                        go_wp2
                        go_roundg k2
                        case measure => have := HK1.out; have := HK2.out; omega
                        case rel => exact ⟨(wrap64 (x32_2 + 1)), (by first | rfl | (simp; done) | (simp [*]; done)), H', ⟨by have := HK1.out; have := HK2.out; omega⟩, ⟨by (with_reducible repeat (first | apply Kd.R_alloc | apply Kd.R_drewN | apply Kd.R_drew)); exact HO_4.out⟩, ⟨by (with_reducible repeat (first | apply Kd.R_alloc | apply Kd.R_drewN | apply Kd.R_drew)); exact HO_5.out⟩, ⟨by (with_reducible repeat (first | apply Kd.R_alloc | apply Kd.R_drewN | apply Kd.R_drew)); exact HO_23.out⟩, ⟨by (with_reducible repeat (first | apply Kd.R_alloc | apply Kd.R_drewN | apply Kd.R_drew)); exact HO_30.out⟩, ⟨by repeat (first | (with_reducible first | exact HB.out | apply below_alloc | apply pw_below_drewN | apply below_drew1) | exact HB.out)⟩⟩
                      · rw [if_neg c18] at H
                        have c18b0 : (x25_1 == x32_2) = false := beq_eq_false_iff_ne.mpr c18
                        have c18b1 : (x25_1 != x32_2) = true := bne_iff_ne.mpr c18
                        by_cases c19 : (Go.bits .and .i64 (rd t187 x25_1) (rd t187 x32_2)) = (rd t187 x25_1)
                        · rw [if_pos c19] at H
                          have c19b0 : ((Go.bits .and .i64 (rd t187 x25_1) (rd t187 x32_2)) == (rd t187 x25_1)) = true := beq_iff_eq.mpr c19
                          have c19b1 : ((Go.bits .and .i64 (rd t187 x25_1) (rd t187 x32_2)) != (rd t187 x25_1)) = false := bne_eq_false_iff_eq.mpr c19
                          clear c19
                          obtain rfl := Option.some.inj H
                          have p191 : 0 ≤ (x32_2 : Int) := of_decide_eq_true (by first | (with_reducible assumption) | assumption)
                          have q191 : x32_2 < (t187.length : Int) := of_decide_eq_true (by first | (with_reducible assumption) | assumption)
                          obtain ⟨ad191, e191, hx191_0⟩ := Kd.at_int (Kd.R_reads' HO_30.out).2.2 x32_2 p191 q191
                          obtain rfl : ad190 = ad191 := (by injection e191)
                          replace p191 := eq_true p191
                          replace q191 := eq_true q191
                          go_wp2
                          go_ret
                          exact ⟨by first | rfl | (simp [errW_none, errW_some] <;> rfl) | (simp [*, errW_none, errW_some] <;> rfl), by repeat (first | (with_reducible first | exact HB.out | apply below_alloc | apply pw_below_drewN | apply below_drew1) | exact HB.out)⟩
                        · rw [if_neg c19] at H
                          have c19b0 : ((Go.bits .and .i64 (rd t187 x25_1) (rd t187 x32_2)) == (rd t187 x25_1)) = false := beq_eq_false_iff_ne.mpr c19
                          have c19b1 : ((Go.bits .and .i64 (rd t187 x25_1) (rd t187 x32_2)) != (rd t187 x25_1)) = true := bne_iff_ne.mpr c19
                          have H' := Aside0.mk H
                          clear H
                          have p191 : 0 ≤ (x32_2 : Int) := of_decide_eq_true (by first | (with_reducible assumption) | assumption)
                          have q191 : x32_2 < (t187.length : Int) := of_decide_eq_true (by first | (with_reducible assumption) | assumption)
                          obtain ⟨ad191, e191, hx191_0⟩ := Kd.at_int (Kd.R_reads' HO_30.out).2.2 x32_2 p191 q191
                          obtain rfl : ad190 = ad191 := (by injection e191)
                          replace p191 := eq_true p191
                          replace q191 := eq_true q191
                          go_wp2
                          go_roundg k2
                          case measure => have := HK1.out; have := HK2.out; omega
                          case rel => exact ⟨(wrap64 (x32_2 + 1)), (by first | rfl | (simp; done) | (simp [*]; done)), H', ⟨by have := HK1.out; have := HK2.out; omega⟩, ⟨by (with_reducible repeat (first | apply Kd.R_alloc | apply Kd.R_drewN | apply Kd.R_drew)); exact HO_4.out⟩, ⟨by (with_reducible repeat (first | apply Kd.R_alloc | apply Kd.R_drewN | apply Kd.R_drew)); exact HO_5.out⟩, ⟨by (with_reducible repeat (first | apply Kd.R_alloc | apply Kd.R_drewN | apply Kd.R_drew)); exact HO_23.out⟩, ⟨by (with_reducible repeat (first | apply Kd.R_alloc | apply Kd.R_drewN | apply Kd.R_drew)); exact HO_30.out⟩, ⟨by repeat (first | (with_reducible first | exact HB.out | apply below_alloc | apply pw_below_drewN | apply below_drew1) | exact HB.out)⟩⟩
                    · rw [if_neg c17] at H
                      exact absurd H (by simp)
                  · rw [if_neg c16] at H
                    exact absurd H (by simp)
                · rw [if_neg c15] at H
                  have c15b0 : decide (x32_2 < (t187.length : Int)) = false := decide_eq_false c15
                  clear c15
                  replace H := Option.bind_eq_some_iff.mp H
                  obtain ⟨t192, A200, H⟩ := H
                  replace H : (if t192 = true then (trustquorumlaw01_NodesetLeast.l0 k2 t183 t187 t187 (t187.length : Int) (wrap64 (x25_1 + 1))) else (some false)) = some r := H
                  have A20 := Aside0.mk A200
                  clear A200
                  by_cases c21 : t192 = true
                  · subst c21
                    have H1 : (trustquorumlaw01_NodesetLeast.l0 k2 t183 t187 t187 (t187.length : Int) (wrap64 (x25_1 + 1))) = some r := by rw [if_pos rfl] at H; exact H
                    clear H
                    have H := H1
                    clear H1
                    have H' := Aside0.mk H
                    clear H
                    go_wp2_with (first | ((with_reducible refine gate_callee (f := 16) rfl ?_); refine goesL_ (some 50) rfl rfl Tryd.func16 (by kernel_rfl) rfl #[.slice Ao9 t183.length co9, .int .i64 (rd t187 x25_1)] rfl (by (try simp only [List.map_toArray, List.map_cons, List.map_nil]); first | done | rfl | (simp only [List.length_drop, List.length_take]; rfl)) ?_; (with_reducible refine (trustquorummake_In.calls k2 _ _ t183 (rd t187 x25_1) true _ ?side1 ?side2 A20.out).mono ?_); (case side1 => repeat (first | exact (Kd.R_reads' HO_4.out).2.2 | (with_reducible refine Kd.C_alloc ?_ _) | (with_reducible refine Kd.C_drewN ?_ _) | (with_reducible refine Kd.C_drew ?_))); (case side2 => exact (Kd.R_reads' HO_4.out).2.1); rintro e w' ⟨rfl, ⟨nd, rfl⟩⟩; refine ⟨_, rfl, ?_⟩))
                    go_roundg k2
                    case measure => have := HK1.out; have := HK2.out; omega
                    case rel => exact ⟨(wrap64 (x25_1 + 1)), (by first | rfl | (simp; done) | (simp [*]; done)), H', ⟨by have := HK1.out; have := HK2.out; omega⟩, ⟨by (with_reducible repeat (first | apply Kd.R_alloc | apply Kd.R_drewN | apply Kd.R_drew)); exact Kd.R_mono HO_4.out (fun _ hk => ⟨hk.1, hk.2.1⟩)⟩, ⟨by (with_reducible repeat (first | apply Kd.R_alloc | apply Kd.R_drewN | apply Kd.R_drew)); exact HO_5.out⟩, ⟨by (with_reducible repeat (first | apply Kd.R_alloc | apply Kd.R_drewN | apply Kd.R_drew)); exact HO_23.out⟩, ⟨by repeat (first | (with_reducible first | exact HB.out | apply below_alloc | apply pw_below_drewN | apply below_drew1) | exact HB.out)⟩⟩
                  · replace c21 := Bool.eq_false_iff.mpr c21
                    subst c21
                    have H1 : (some false) = some r := by rw [if_neg (show ¬ (false = true) by decide)] at H; exact H
                    clear H
                    have H := H1
                    clear H1
                    obtain rfl := Option.some.inj H
                    go_wp2_with (first | ((with_reducible refine gate_callee (f := 16) rfl ?_); refine goesL_ (some 50) rfl rfl Tryd.func16 (by kernel_rfl) rfl #[.slice Ao9 t183.length co9, .int .i64 (rd t187 x25_1)] rfl (by (try simp only [List.map_toArray, List.map_cons, List.map_nil]); first | done | rfl | (simp only [List.length_drop, List.length_take]; rfl)) ?_; (with_reducible refine (trustquorummake_In.calls k2 _ _ t183 (rd t187 x25_1) false _ ?side1 ?side2 A20.out).mono ?_); (case side1 => repeat (first | exact (Kd.R_reads' HO_4.out).2.2 | (with_reducible refine Kd.C_alloc ?_ _) | (with_reducible refine Kd.C_drewN ?_ _) | (with_reducible refine Kd.C_drew ?_))); (case side2 => exact (Kd.R_reads' HO_4.out).2.1); rintro e w' ⟨rfl, ⟨nd, rfl⟩⟩; refine ⟨_, rfl, ?_⟩))
                    go_ret
                    exact ⟨by first | rfl | (simp [errW_none, errW_some] <;> rfl) | (simp [*, errW_none, errW_some] <;> rfl), by repeat (first | (with_reducible first | exact HB.out | apply below_alloc | apply pw_below_drewN | apply below_drew1) | exact HB.out)⟩
          · rw [if_neg c14] at H
            exact absurd H (by simp)
        · rw [if_neg c13] at H
          exact absurd H (by simp)
      · rw [if_neg c12] at H
        have c12b0 : decide (x25_1 < (t187.length : Int)) = false := decide_eq_false c12
        clear c12
        have H' := Aside0.mk H
        clear H
        go_wp2
        go_loopg [55] k1 (fun kq v55 w' => ∃ (x55_2 : Int), v55 = .int .i64 x55_2 ∧ Aside0 (trustquorumlaw01_NodesetLeast.l2 kq t187 t183 (t183.length : Int) x55_2 = some r) ∧ Aside0 (kq ≤ k1) ∧ Aside0 (Kd.R (Kd.int .i64) 3 w' w.heap.size (fun k_ => some k_ ≠ ((.slice Ao9 t183.length co9) : Value).ownBlock) (.slice Ao11 t187.length co11) t187) ∧ Aside0 (Kd.R (Kd.int .i64) 3 w' w.heap.size (fun k_ => some k_ ≠ ((.slice Ao11 t187.length co11) : Value).ownBlock) (.slice Ao9 t183.length co9) t183) ∧ Aside0 (Below w.heap.size w w'))
        case atStart => exact ⟨(0), (by first | rfl | (simp; done) | (simp [*]; done)), H', ⟨Nat.le_refl _⟩, ⟨by (with_reducible repeat (first | apply Kd.R_alloc | apply Kd.R_drewN | apply Kd.R_drew)); exact HO_5.out⟩, ⟨by (with_reducible repeat (first | apply Kd.R_alloc | apply Kd.R_drewN | apply Kd.R_drew)); exact Kd.R_mono HO_4.out (fun _ hk => hk.1)⟩, ⟨by repeat (first | (with_reducible first | exact HB.out | apply below_alloc | apply pw_below_drewN | apply below_drew1) | exact HB.out)⟩⟩
        case round =>
          clear H'
          try clear c1
          try clear p1
          try clear q1
          try clear hx1
          try clear c2
          try clear p2
          try clear c4
          try clear p6
          try clear c12
          try clear c12b0
          try clear c13
          try clear c13b0
          try clear c14
          try clear c14b0
          try clear c15
          try clear c15b0
          try clear c16
          try clear c16b0
          try clear c17
          try clear c17b0
          try clear c18
          try clear c18b0
          try clear c18b1
          try clear c19
          try clear c19b0
          try clear c19b1
          try clear p19
          try clear q19
          try clear hx19
          try clear c21
          try clear hx190_0
          try clear hx191_0
          try clear p1
          try clear p190
          try clear p191
          try clear p2
          try clear q1
          try clear q190
          try clear q191
          obtain ⟨x55_2, rfl, HA, HK2, HO_5, HO_53, HB⟩ := hrel
          cases gk with
          | zero => exact absurd HA.out (by simp [trustquorumlaw01_NodesetLeast.l2])
          | succ k2 =>
            have H := HA.out
            clear HA
            simp only [trustquorumlaw01_NodesetLeast.l2] at H
            by_cases c22 : x55_2 < (t183.length : Int)
            · rw [if_pos c22] at H
              have c22b0 : decide (x55_2 < (t183.length : Int)) = true := decide_eq_true c22
              clear c22
              by_cases c23 : 0 ≤ x55_2
              · rw [if_pos c23] at H
                have c23b0 : decide (0 ≤ x55_2) = true := decide_eq_true c23
                clear c23
                by_cases c24 : x55_2 < (t183.length : Int)
                · rw [if_pos c24] at H
                  have c24b0 : decide (x55_2 < (t183.length : Int)) = true := decide_eq_true c24
                  clear c24
                  have H' := Aside0.mk H
                  clear H
                  have p194 : 0 ≤ (x55_2 : Int) := of_decide_eq_true (by first | (with_reducible assumption) | assumption)
                  have q194 : x55_2 < (t183.length : Int) := of_decide_eq_true (by first | (with_reducible assumption) | assumption)
                  obtain ⟨ad194, e194, hx194_0⟩ := Kd.at_int (Kd.R_reads' HO_53.out).2.2 x55_2 p194 q194
                  cases e194
                  replace p194 := eq_true p194
                  replace q194 := eq_true q194
                  go_wp2
                  go_loopg [12, 61] k2 (fun kq v12 v61 w' => ∃ (x12_3 : Bool) (x61_3 : Int), v12 = .bool x12_3 ∧ v61 = .int .i64 x61_3 ∧ Aside0 (trustquorumlaw01_NodesetLeast.l3 kq t187 (rd t183 x55_2) x12_3 t183 (t183.length : Int) x55_2 t187 (t187.length : Int) x61_3 = some r) ∧ Aside0 (kq ≤ k2) ∧ Aside0 (Kd.R (Kd.int .i64) 3 w' w.heap.size (fun k_ => some k_ ≠ ((.slice (some ad194) t183.length co9) : Value).ownBlock) (.slice Ao11 t187.length co11) t187) ∧ Aside0 (Kd.R (Kd.int .i64) 3 w' w.heap.size (fun k_ => some k_ ≠ ((.slice Ao11 t187.length co11) : Value).ownBlock ∧ some k_ ≠ ((.slice Ao11 t187.length co11) : Value).ownBlock) (.slice (some ad194) t183.length co9) t183) ∧ Aside0 (Kd.R (Kd.int .i64) 3 w' w.heap.size (fun k_ => some k_ ≠ ((.slice (some ad194) t183.length co9) : Value).ownBlock) (.slice Ao11 t187.length co11) t187) ∧ Aside0 (Below w.heap.size w w'))
                  case atStart => exact ⟨(false), (0), (by first | rfl | (simp; done) | (simp [*]; done)), (by first | rfl | (simp; done) | (simp [*]; done)), H', ⟨Nat.le_refl _⟩, ⟨by (with_reducible repeat (first | apply Kd.R_alloc | apply Kd.R_drewN | apply Kd.R_drew)); exact HO_5.out⟩, ⟨by (with_reducible repeat (first | apply Kd.R_alloc | apply Kd.R_drewN | apply Kd.R_drew)); exact Kd.R_mono HO_53.out (fun _ hk => ⟨hk, hk⟩)⟩, ⟨by (with_reducible repeat (first | apply Kd.R_alloc | apply Kd.R_drewN | apply Kd.R_drew)); exact HO_5.out⟩, ⟨by repeat (first | (with_reducible first | exact HB.out | apply below_alloc | apply pw_below_drewN | apply below_drew1) | exact HB.out)⟩⟩
                  case round =>
                    clear H'
                    try clear c1
                    try clear p1
                    try clear q1
                    try clear hx1
                    try clear c2
                    try clear p2
                    try clear c4
                    try clear p6
                    try clear c12
                    try clear c12b0
                    try clear c13
                    try clear c13b0
                    try clear c14
                    try clear c14b0
                    try clear c15
                    try clear c15b0
                    try clear c16
                    try clear c16b0
                    try clear c17
                    try clear c17b0
                    try clear c18
                    try clear c18b0
                    try clear c18b1
                    try clear c19
                    try clear c19b0
                    try clear c19b1
                    try clear p19
                    try clear q19
                    try clear hx19
                    try clear c21
                    try clear c22
                    try clear c22b0
                    try clear c23
                    try clear c23b0
                    try clear c24
                    try clear c24b0
                    try clear hx190_0
                    try clear hx191_0
                    try clear hx194_0
                    try clear p1
                    try clear p19
                    try clear p190
                    try clear p191
                    try clear p194
                    try clear p2
                    try clear p6
                    try clear q1
                    try clear q19
                    try clear q190
                    try clear q191
                    try clear q194
                    obtain ⟨x12_3, x61_3, rfl, rfl, HA, HK3, HO_5, HO_53, HO_59, HB⟩ := hrel
                    cases gk with
                    | zero => exact absurd HA.out (by simp [trustquorumlaw01_NodesetLeast.l3])
                    | succ k3 =>
                      have H := HA.out
                      clear HA
                      simp only [trustquorumlaw01_NodesetLeast.l3] at H
                      by_cases c25 : x61_3 < (t187.length : Int)
                      · rw [if_pos c25] at H
                        have c25b0 : decide (x61_3 < (t187.length : Int)) = true := decide_eq_true c25
                        clear c25
                        by_cases c26 : 0 ≤ x61_3
                        · rw [if_pos c26] at H
                          have c26b0 : decide (0 ≤ x61_3) = true := decide_eq_true c26
                          clear c26
                          by_cases c27 : x61_3 < (t187.length : Int)
                          · rw [if_pos c27] at H
                            have c27b0 : decide (x61_3 < (t187.length : Int)) = true := decide_eq_true c27
                            clear c27
                            by_cases c28 : x12_3 = true
                            · subst c28
                              have H1 : (trustquorumlaw01_NodesetLeast.l3 k3 t187 (rd t183 x55_2) true t183 (t183.length : Int) x55_2 t187 (t187.length : Int) (wrap64 (x61_3 + 1))) = some r := by rw [if_pos rfl] at H; exact H
                              clear H
                              have H := H1
                              clear H1
                              have H' := Aside0.mk H
                              clear H
                              have p195 : 0 ≤ (x61_3 : Int) := of_decide_eq_true (by first | (with_reducible assumption) | assumption)
                              have q195 : x61_3 < (t187.length : Int) := of_decide_eq_true (by first | (with_reducible assumption) | assumption)
                              obtain ⟨ad195, e195, hx195_0⟩ := Kd.at_int (Kd.R_reads' HO_59.out).2.2 x61_3 p195 q195
                              cases e195
                              replace p195 := eq_true p195
                              replace q195 := eq_true q195
                              go_wp2
                              go_roundg k3
                              case measure => have := HK1.out; have := HK2.out; have := HK3.out; omega
                              case rel => exact ⟨(true), (wrap64 (x61_3 + 1)), (by first | rfl | (simp; done) | (simp [*]; done)), (by first | rfl | (simp; done) | (simp [*]; done)), H', ⟨by have := HK1.out; have := HK2.out; have := HK3.out; omega⟩, ⟨by (with_reducible repeat (first | apply Kd.R_alloc | apply Kd.R_drewN | apply Kd.R_drew)); exact HO_5.out⟩, ⟨by (with_reducible repeat (first | apply Kd.R_alloc | apply Kd.R_drewN | apply Kd.R_drew)); exact HO_53.out⟩, ⟨by (with_reducible repeat (first | apply Kd.R_alloc | apply Kd.R_drewN | apply Kd.R_drew)); exact HO_59.out⟩, ⟨by repeat (first | (with_reducible first | exact HB.out | apply below_alloc | apply pw_below_drewN | apply below_drew1) | exact HB.out)⟩⟩
                            · replace c28 := Bool.eq_false_iff.mpr c28
                              subst c28
                              have H1 : (trustquorumlaw01_NodesetLeast.l3 k3 t187 (rd t183 x55_2) ((Go.bits .and .i64 (rd t187 x61_3) (rd t183 x55_2)) == (rd t187 x61_3)) t183 (t183.length : Int) x55_2 t187 (t187.length : Int) (wrap64 (x61_3 + 1))) = some r := by rw [if_neg (show ¬ (false = true) by decide)] at H; exact H
                              clear H
                              have H := H1
                              clear H1
                              have H' := Aside0.mk H
                              clear H
                              have p195 : 0 ≤ (x61_3 : Int) := of_decide_eq_true (by first | (with_reducible assumption) | assumption)
                              have q195 : x61_3 < (t187.length : Int) := of_decide_eq_true (by first | (with_reducible assumption) | assumption)
                              obtain ⟨ad195, e195, hx195_0⟩ := Kd.at_int (Kd.R_reads' HO_59.out).2.2 x61_3 p195 q195
                              cases e195
                              replace p195 := eq_true p195
                              replace q195 := eq_true q195
                              go_wp2
                              go_roundg k3
                              case measure => have := HK1.out; have := HK2.out; have := HK3.out; omega
                              case rel => exact ⟨(((Go.bits .and .i64 (rd t187 x61_3) (rd t183 x55_2)) == (rd t187 x61_3))), (wrap64 (x61_3 + 1)), (by first | rfl | (simp; done) | (simp [*]; done)), (by first | rfl | (simp; done) | (simp [*]; done)), H', ⟨by have := HK1.out; have := HK2.out; have := HK3.out; omega⟩, ⟨by (with_reducible repeat (first | apply Kd.R_alloc | apply Kd.R_drewN | apply Kd.R_drew)); exact HO_5.out⟩, ⟨by (with_reducible repeat (first | apply Kd.R_alloc | apply Kd.R_drewN | apply Kd.R_drew)); exact HO_53.out⟩, ⟨by (with_reducible repeat (first | apply Kd.R_alloc | apply Kd.R_drewN | apply Kd.R_drew)); exact HO_59.out⟩, ⟨by repeat (first | (with_reducible first | exact HB.out | apply below_alloc | apply pw_below_drewN | apply below_drew1) | exact HB.out)⟩⟩
                          · rw [if_neg c27] at H
                            exact absurd H (by simp)
                        · rw [if_neg c26] at H
                          exact absurd H (by simp)
                      · rw [if_neg c25] at H
                        have c25b0 : decide (x61_3 < (t187.length : Int)) = false := decide_eq_false c25
                        clear c25
                        by_cases c29 : x12_3 = true
                        · subst c29
                          have H1 : (trustquorumlaw01_NodesetLeast.l2 k3 t187 t183 (t183.length : Int) (wrap64 (x55_2 + 1))) = some r := by rw [if_pos rfl] at H; exact H
                          clear H
                          have H := H1
                          clear H1
                          have H' := Aside0.mk H
                          clear H
                          go_wp2
                          go_roundg k3
                          case measure => have := HK1.out; have := HK2.out; have := HK3.out; omega
                          case rel => exact ⟨(wrap64 (x55_2 + 1)), (by first | rfl | (simp; done) | (simp [*]; done)), H', ⟨by have := HK1.out; have := HK2.out; have := HK3.out; omega⟩, ⟨by (with_reducible repeat (first | apply Kd.R_alloc | apply Kd.R_drewN | apply Kd.R_drew)); exact HO_5.out⟩, ⟨by (with_reducible repeat (first | apply Kd.R_alloc | apply Kd.R_drewN | apply Kd.R_drew)); exact Kd.R_mono HO_53.out (fun _ hk => hk.1)⟩, ⟨by repeat (first | (with_reducible first | exact HB.out | apply below_alloc | apply pw_below_drewN | apply below_drew1) | exact HB.out)⟩⟩
                        · replace c29 := Bool.eq_false_iff.mpr c29
                          subst c29
                          have H1 : (some false) = some r := by rw [if_neg (show ¬ (false = true) by decide)] at H; exact H
                          clear H
                          have H := H1
                          clear H1
                          obtain rfl := Option.some.inj H
                          go_wp2
                          go_ret
                          exact ⟨by first | rfl | (simp [errW_none, errW_some] <;> rfl) | (simp [*, errW_none, errW_some] <;> rfl), by repeat (first | (with_reducible first | exact HB.out | apply below_alloc | apply pw_below_drewN | apply below_drew1) | exact HB.out)⟩
                · rw [if_neg c24] at H
                  exact absurd H (by simp)
              · rw [if_neg c23] at H
                exact absurd H (by simp)
            · rw [if_neg c22] at H
              have c22b0 : decide (x55_2 < (t183.length : Int)) = false := decide_eq_false c22
              clear c22
              replace H := Option.bind_eq_some_iff.mp H
              obtain ⟨t193, A300, H⟩ := H
              replace H : (some t193) = some r := H
              have A30 := Aside0.mk A300
              clear A300
              obtain rfl := Option.some.inj H
              go_wp2_with (first | ((with_reducible refine gate_callee (f := 11) rfl ?_); refine goesL_ (some 77) rfl rfl Tryd.func11 (by kernel_rfl) rfl #[] rfl (by (try simp only [List.map_toArray, List.map_cons, List.map_nil]); first | done | rfl | (simp only [List.length_drop, List.length_take]; rfl)) ?_; (with_reducible refine (trustquorumlaw01_awake.calls k2  t193 _ A30.out).mono ?_); rintro e w31 ⟨rfl, hb⟩; refine ⟨_, rfl, ?_⟩; have n0_ := Aside0.mk (Kd.R_below (by (with_reducible repeat (first | apply Kd.R_alloc | apply Kd.R_drewN | apply Kd.R_drew)); exact HO_5.out) hb); have n1_ := Aside0.mk (Kd.R_below (by (with_reducible repeat (first | apply Kd.R_alloc | apply Kd.R_drewN | apply Kd.R_drew)); exact HO_53.out) hb); have n2_ := Aside0.mk (below_step (by repeat (first | (with_reducible first | exact HB.out | apply below_alloc | apply pw_below_drewN | apply below_drew1) | exact HB.out)) hb); clear HO_5; clear HO_53; clear HB; have HO_5 := n0_; have HO_53 := n1_; have HB := n2_; clear n0_ n1_ n2_; (try clear hb); (try clear hb2); (try clear hk); (try clear hi)))
              go_ret
              exact ⟨by first | rfl | (simp [errW_none, errW_some] <;> rfl) | (simp [*, errW_none, errW_some] <;> rfl), by repeat (first | (with_reducible first | exact HB.out | apply below_alloc | apply pw_below_drewN | apply below_drew1) | exact HB.out)⟩
/-- THE ONE PURE STATEMENT of trustquorumlaw01_NodesetLeast: yours. -/
def trustquorumlaw01_NodesetLeast.Pure : Prop := ∀ (l0 : List Int), l0.length ≤ maxLen → l0.length * 8 ≤ 140737488351232 → (∀ x ∈ l0, (Lit.int .i64 x).wf = true) → ∃ k, trustquorumlaw01_NodesetLeast.f k l0 = some true
theorem trustquorumlaw01_NodesetLeast.walk (P : trustquorumlaw01_NodesetLeast.Pure) (a0 : Option Addr) (len0 cap0 : Nat) (z0 : List Int) (w : World) (w0 : (a0 = none ∧ len0 = 0 ∧ cap0 = 0 ∧ z0 = []) ∨ ∃ x, a0 = some x ∧ len0 ≤ cap0 ∧ cap0 ≤ maxLen ∧ z0.length = cap0 ∧ (∀ i, i < z0.length → w.cell? (x.add i) = some (.int .i64 (z0.getD i 0))) ∧ ∀ n ∈ z0, (Lit.int .i64 n).wf = true) (y0 : len0 * 8 ≤ 140737488351232) :
    Calls Tryd.prog 4 #[.slice a0 len0 cap0] w fun e w' => e = .returned (.bool true) ∧ Below w.heap.size w w' := by
  obtain ⟨l0, rfl, hr0, hm0, hw0, hc0⟩ := ReadsInt.ofRowC w0
  obtain ⟨k, h⟩ := P l0 hm0 y0 hw0
  refine (trustquorumlaw01_NodesetLeast.calls k _ _ l0 true w (Kd.C_of_reads (d := (0 : Int)) (h1 := fun _ => rfl) hr0) hc0 h).mono ?_
  rintro e w' ⟨rfl, hd⟩
  exact ⟨rfl, hd⟩
end Go.Proofs.YtfkpimjiaijmgaaDoor.G
end
section
namespace Go.Proofs.YtfkpimjiaijmgaaDoorV
/-- From t on, at most d numbers: the first one below 2^n of that size. -/
def seek (n size : Nat) : Nat → Nat → Option Nat
  | 0, _ => none
  | d + 1, t => if t < 2 ^ n then (if popc t = size then some t else seek n size d (t + 1)) else none
def nextN (n s : Nat) : Option Nat := match seek n (popc s) 1024 (s + 1) with
  | some t => some t
  | none => if popc s = n then none else some (2 ^ (popc s + 1) - 1)
def key (s : Nat) : Nat := popc s * 1024 + s
end Go.Proofs.YtfkpimjiaijmgaaDoorV
end
section
namespace Go.Proofs.YtfkpimjiaijmgaaDoorV
/-- a comes before b in the order of sets. -/
def before (a b : Int) : Prop := rankI a < rankI b ∨ (rankI a = rankI b ∧ a < b)
instance (a b : Int) : Decidable (before a b) := inferInstanceAs (Decidable (_ ∨ _))
theorem before_iff (a b : Int) : cmpI a b < 0 ↔ before a b := cmpI_lt a b
theorem before_trans {a b c : Int} (h : before a b) (k : before b c) : before a c := by unfold before at *; omega
theorem before_irrefl (a : Int) : ¬ before a a := by unfold before; omega
theorem before_total (a b : Int) : before a b ∨ a = b ∨ before b a := by unfold before; omega
theorem sortSets_perm (l : List Int) : (sortSets l).Perm l := List.mergeSort_perm _ _
theorem sortSets_sorted (l : List Int) : (sortSets l).Pairwise fun x y => ¬ before y x := by
  have := List.pairwise_mergeSort (le := fun x y => !decide (cmpI y x < 0)) (fun a b c h1 h2 => by
    simp only [Bool.not_eq_true', decide_eq_false_iff_not, before_iff] at *
    unfold before at *; omega) (fun a b => by
    simp only [Bool.or_eq_true, Bool.not_eq_true', decide_eq_false_iff_not, before_iff]
    unfold before; omega) l
  refine this.imp ?_
  intro a b h
  simpa [before_iff] using h
theorem mem_keepLeast : ∀ (l out : List Int) (s : Int), s ∈ keepLeast out l → s ∈ out ∨ s ∈ l
  | [], _, _, h => .inl h
  | x :: l, out, s, h => by
    unfold keepLeast at h
    rcases mem_keepLeast l _ s h with h | h
    · by_cases hx : (out.any fun t => subI t x) = true
      · rw [if_pos hx] at h; exact .inl h
      · rw [if_neg hx] at h
        rcases List.mem_append.1 h with h | h
        · exact .inl h
        · rw [List.mem_singleton.1 h]; exact .inr (by simp)
    · exact .inr (by simp [h])
theorem keep_out : ∀ (l out : List Int) (s : Int), s ∈ out → s ∈ keepLeast out l
  | [], _, _, h => h
  | x :: l, out, s, h => by
    unfold keepLeast
    refine keep_out l _ s ?_
    split
    · exact h
    · exact List.mem_append.2 (.inl h)
/-- Each element has one below it that is kept. -/
theorem keep_some : ∀ (l out : List Int) (s : Int), s ∈ l → ∃ t ∈ keepLeast out l, subI t s = true
  | x :: l, out, s, h => by
    unfold keepLeast
    rcases List.mem_cons.1 h with rfl | h
    · by_cases hx : (out.any fun t => subI t s) = true
      · rw [if_pos hx]
        obtain ⟨t, ht, hs⟩ := List.any_eq_true.1 hx
        exact ⟨t, keep_out _ _ _ ht, hs⟩
      · rw [if_neg hx]
        exact ⟨s, keep_out _ _ _ (by simp), by simp [subI]⟩
    · exact keep_some l _ s h
/-- What is kept has nothing kept ahead of it below it. -/
theorem keep_sorted : ∀ (l out : List Int), (out ++ l).Pairwise (fun x y => ¬ before y x) → out.Pairwise (fun x y => before x y ∧ subI x y = false) → (∀ x ∈ l, isSet x = true) → (∀ x ∈ out, isSet x = true) →
    (keepLeast out l).Pairwise (fun x y => before x y ∧ subI x y = false)
  | [], _, _, h, _, _ => h
  | x :: l, out, hs, h, hl, ho => by
    unfold keepLeast
    have hs' : (out ++ l).Pairwise (fun x y => ¬ before y x) := by
      rw [List.pairwise_append] at hs ⊢
      exact ⟨hs.1, (List.pairwise_cons.1 hs.2.1).2, fun a ha b hb => hs.2.2 a ha b (by simp [hb])⟩
    by_cases hx : (out.any fun t => subI t x) = true
    · rw [if_pos hx]; exact keep_sorted l out hs' h (fun y hy => hl y (by simp [hy])) ho
    · rw [if_neg hx]
      refine keep_sorted l (out ++ [x]) (by simpa using hs) ?_ (fun y hy => hl y (by simp [hy])) ?_
      · rw [List.pairwise_append]
        refine ⟨h, by simp, fun a ha b hb => ?_⟩
        rw [List.mem_singleton.1 hb]
        have hn : subI a x = false := by
          cases hz : subI a x with
          | false => rfl
          | true => exact absurd (List.any_eq_true.2 ⟨a, ha, hz⟩) hx
        have hnb := (List.pairwise_append.1 hs).2.2 a ha x (by simp)
        rcases before_total a x with hb | rfl | hb
        · exact ⟨hb, hn⟩
        · simp [subI] at hn
        · exact absurd hb hnb
      · intro y hy
        rcases List.mem_append.1 hy with hy | hy
        · exact ho y hy
        · rw [List.mem_singleton.1 hy]; exact hl x (by simp)
/-- A subset is no greater: it comes first, or is the set. -/
theorem sub_before {t s : Int} (ht : isSet t = true) (hs : isSet s = true) (h : subI t s = true) : before t s ∨ t = s := by
  obtain ⟨a, rfl, ha⟩ := isSet_nat ht
  obtain ⟨b, rfl, hb⟩ := isSet_nat hs
  simp only [subI, Int.toNat_natCast, beq_iff_eq] at h
  have hle : popc a ≤ popc b := by
    rw [popc_bits ⟨a, ha⟩, popc_bits ⟨b, hb⟩]
    rw [← List.countP_eq_length_filter, ← List.countP_eq_length_filter]
    refine List.countP_mono_left fun k _ hk => ?_
    have hk' : a.testBit k = true := hk
    rw [← h, Nat.testBit_and] at hk'
    simp at hk'
    exact hk'.2
  have hab : a ≤ b := by rw [← h]; exact Nat.and_le_right
  have ra : rankI (a : Int) = popc a := by unfold rankI; rw [if_pos ht]; rfl
  have rb : rankI (b : Int) = popc b := by unfold rankI; rw [if_pos hs]; rfl
  unfold before
  rw [ra, rb]
  omega
theorem leastL_sorted (l : List Int) : (leastL l).Pairwise (fun x y => before x y ∧ subI x y = false) := by
  refine keep_sorted _ [] (by simpa using sortSets_sorted _) (by simp) (fun x hx => ?_) (by simp)
  exact (List.mem_filter.1 ((sortSets_perm _).mem_iff.1 hx)).2
theorem mem_leastL {l : List Int} {s : Int} : s ∈ leastL l ↔ s ∈ l ∧ isSet s = true ∧ ∀ t ∈ l, isSet t = true → subI t s = true → t = s := by
  have hmem : ∀ x, x ∈ sortSets (l.filter isSet) ↔ x ∈ l ∧ isSet x = true := fun x => by
    rw [(sortSets_perm _).mem_iff, List.mem_filter]
  constructor
  · intro h
    have h1 : s ∈ l ∧ isSet s = true := by
      rcases mem_keepLeast _ _ _ h with h | h
      · simp at h
      · exact (hmem s).1 h
    refine ⟨h1.1, h1.2, fun t ht hts hsub => ?_⟩
    obtain ⟨u, hu, hut⟩ := keep_some (sortSets (l.filter isSet)) [] t ((hmem t).2 ⟨ht, hts⟩)
    have hu1 : isSet u = true := by
      rcases mem_keepLeast _ _ _ hu with h | h
      · simp at h
      · exact ((hmem u).1 h).2
    have hus : subI u s = true := by
      simp only [subI, beq_iff_eq] at *
      rw [← hut, Nat.and_assoc, hsub]
    have heq : u = s := by
      have hp := leastL_sorted l
      apply Classical.byContradiction
      intro hne
      obtain ⟨i, hi, rfl⟩ := List.getElem_of_mem hu
      obtain ⟨j, hj, rfl⟩ := List.getElem_of_mem h
      have hpw := List.pairwise_iff_getElem.1 hp
      rcases Nat.lt_trichotomy i j with hij | rfl | hij
      · have h0 := (hpw i j hi hj hij).2; exact absurd (h0.symm.trans hus) (by simp)
      · exact hne rfl
      · have hb := (hpw j i hj hi hij).1
        rcases sub_before hu1 h1.2 hus with hb' | he
        · exact before_irrefl _ (before_trans hb hb')
        · exact hne he
    subst heq
    rcases sub_before hu1 hts hut with hb | he
    · rcases sub_before hts h1.2 hsub with hb' | he
      · exact absurd (before_trans hb hb') (before_irrefl _)
      · exact he
    · exact he.symm
  · rintro ⟨h1, h2, h3⟩
    obtain ⟨u, hu, hus⟩ := keep_some (sortSets (l.filter isSet)) [] s ((hmem s).2 ⟨h1, h2⟩)
    have hu' : u ∈ l ∧ isSet u = true := by
      rcases mem_keepLeast _ _ _ hu with h | h
      · simp at h
      · exact (hmem u).1 h
    have := h3 u hu'.1 hu'.2 hus
    rw [← this]; exact hu
/-- Two strictly sorted lists with the same elements are one. -/
theorem sorted_ext : ∀ {l m : List Int}, l.Pairwise before → m.Pairwise before → (∀ x, x ∈ l ↔ x ∈ m) → l = m
  | [], [], _, _, _ => rfl
  | [], y :: m, _, _, h => by have := (h y).2 (by simp); simp at this
  | x :: l, [], _, _, h => by have := (h x).1 (by simp); simp at this
  | x :: l, y :: m, hl, hm, h => by
    have hl' := List.pairwise_cons.1 hl
    have hm' := List.pairwise_cons.1 hm
    have hxy : x = y := by
      rcases List.mem_cons.1 ((h x).1 (by simp)) with he | hx
      · exact he
      · rcases List.mem_cons.1 ((h y).2 (by simp)) with he | hy
        · exact he.symm
        · exact absurd (before_trans (hl'.1 y hy) (hm'.1 x hx)) (before_irrefl _)
    subst hxy
    congr 1
    refine sorted_ext hl'.2 hm'.2 (fun z => ?_)
    constructor
    · intro hz
      rcases List.mem_cons.1 ((h z).1 (by simp [hz])) with rfl | hz'
      · exact absurd (hl'.1 z hz) (before_irrefl _)
      · exact hz'
    · intro hz
      rcases List.mem_cons.1 ((h z).2 (by simp [hz])) with rfl | hz'
      · exact absurd (hm'.1 z hz) (before_irrefl _)
      · exact hz'
theorem leastL_eq {l m : List Int} (hm : m.Pairwise before) (h : ∀ x, x ∈ leastL l ↔ x ∈ m) : leastL l = m :=
  sorted_ext ((leastL_sorted l).imp fun h => h.1) hm h
end Go.Proofs.YtfkpimjiaijmgaaDoorV
end
section
namespace Go.Proofs.YtfkpimjiaijmgaaDoor.Q
open Go.RowKit Go.Proofs.YtfkpimjiaijmgaaDoor.G Go.Proofs.YtfkpimjiaijmgaaDoorW.PrintWords Go.Proofs.YtfkpimjiaijmgaaDoorW.PrintLast Go.Proofs.YtfkpimjiaijmgaaDoorW.PrintMore Go.Proofs.YtfkpimjiaijmgaaDoorV
set_option linter.unusedVariables false
/-- A tape: at most 400 numbers; the place lies in it. -/
structure TI (l : List Int) (p : Int) : Prop where
  len : l.length ≤ 400
  lo : 0 ≤ p
  hi : p ≤ l.length
theorem wrap_of {x : Int} (h0 : -9223372036854775808 ≤ x) (h1 : x ≤ 9223372036854775807) : wrap64 x = x := by unfold wrap64; omega
theorem tape_new (l : List Int) : ∃ l', trustquorummake_New.f l = some (l', 0) ∧ TI l' 0 := by
  unfold trustquorummake_New.f
  have h : mn (l.length : Int) 400 ≤ 400 ∧ mn (l.length : Int) 400 ≤ l.length ∧ 0 ≤ mn (l.length : Int) 400 := by unfold mn; split <;> omega
  rw [if_pos h.2.2, if_pos h.2.1]
  refine ⟨_, rfl, ⟨?_, Int.le_refl _, by omega⟩⟩
  rw [List.length_take]; omega
theorem tape_N {l : List Int} {p : Int} (h : TI l p) (n : Int) (hn : 0 < n) (hn2 : n ≤ 4294967296) : ∃ r q, trustquorummake_Tape_N.f l p n = some (r, q) ∧ 0 ≤ r ∧ r < n ∧ TI l q := by
  obtain ⟨h1, h2, h3⟩ := h
  unfold trustquorummake_Tape_N.f
  by_cases c : p ≥ (l.length : Int)
  · rw [if_pos c]; exact ⟨0, p, rfl, Int.le_refl _, hn, h1, h2, h3⟩
  · rw [if_neg c, if_pos h2, if_pos (by omega), if_neg (by omega)]
    have hp : wrap64 (p + 1) = p + 1 := wrap_of (by omega) (by omega)
    have t1 := Int.tmod_lt_of_pos (rd l p) hn
    have t2 := Int.lt_tmod_of_pos (rd l p) hn
    rw [hp]
    by_cases c2 : Int.tmod (rd l p) n < 0
    · rw [if_pos c2, wrap_of (by omega) (by omega)]; exact ⟨_, _, rfl, by omega, by omega, h1, by omega, by omega⟩
    · rw [if_neg c2]; exact ⟨_, _, rfl, by omega, by omega, h1, by omega, by omega⟩
theorem tape_Range {l : List Int} {p : Int} (h : TI l p) (a b : Int) (hab : a ≤ b) (ha : -1000000 ≤ a) (hb : b ≤ 1000000) : ∃ r q, trustquorummake_Tape_Range.f l p a b = some (r, q) ∧ a ≤ r ∧ r ≤ b ∧ TI l q := by
  unfold trustquorummake_Tape_Range.f
  have w1 : wrap64 (b - a) = b - a := wrap_of (by omega) (by omega)
  have w2 : wrap64 (b - a + 1) = b - a + 1 := wrap_of (by omega) (by omega)
  rw [w1, w2]
  obtain ⟨r, q, e, h0, h1, hq⟩ := tape_N h (b - a + 1) (by omega) (by omega)
  rw [e]
  refine ⟨a + r, q, ?_, by omega, by omega, hq⟩
  simp only [Option.bind_some]
  rw [wrap_of (by omega) (by omega)]
end Go.Proofs.YtfkpimjiaijmgaaDoor.Q
end
section
namespace Go.Proofs.YtfkpimjiaijmgaaDoor.Q
open Go.RowKit Go.Proofs.YtfkpimjiaijmgaaDoor.G Go.Proofs.YtfkpimjiaijmgaaDoorW.PrintWords Go.Proofs.YtfkpimjiaijmgaaDoorW.PrintLast Go.Proofs.YtfkpimjiaijmgaaDoorW.PrintMore Go.Proofs.YtfkpimjiaijmgaaDoorV
set_option linter.unusedVariables false
theorem below_eq (x : Int) (n : Nat) (hn : n ≤ 10) : nodeset_below.f x n = some (decide (0 ≤ x) && decide (x < 2 ^ n)) := by
  have e : shl .i64 1 n = 2 ^ n := (by decide +kernel : ∀ m : Fin 11, shl .i64 1 (m.1 : Int) = 2 ^ m.1) ⟨n, by omega⟩
  unfold nodeset_below.f
  rw [e]
  by_cases h : 0 ≤ x <;> simp [h, ge_iff_le]
theorem pow_le_1024 (n : Nat) (hn : n ≤ 10) : 2 ^ n ≤ 1024 := (by decide : ∀ m : Fin 11, 2 ^ m.1 ≤ 1024) ⟨n, by omega⟩
theorem size_eqN (s : Nat) (h : s < 1024) : nodeset_Size.f (s : Int) = some (popc s : Int) := by
  have := size_eq (s : Int) (by simp [isSet]; omega)
  simpa using this
theorem next_loop (n : Nat) (hn : n ≤ 10) (size : Nat) (hs : size ≤ n) : ∀ (d k t : Nat), t + d = 2 ^ n → d < k → ∀ d', d ≤ d' →
    nodeset_Next.l0 k n size t = some (match seek n size d' t with | some u => ((u : Int), true) | none => if size = n then (0, false) else (((2 ^ (size + 1) - 1 : Nat) : Int), true))
  | 0, k + 1, t, ht, _, d', _ => by
    have hp := pow_le_1024 n hn
    have e : seek n size d' t = none := by cases d' <;> simp [seek]; omega
    simp only [nodeset_Next.l0, e]
    rw [below_eq _ n hn]
    have e2 : (decide (0 ≤ (t : Int)) && decide ((t : Int) < 2 ^ n)) = false := by
      have : ¬ ((t : Int) < 2 ^ n) := by have : ((2 ^ n : Nat) : Int) = 2 ^ n := by simp
                                         omega
      simp [this]
    rw [e2]
    simp only [Option.bind_some, Bool.false_eq_true, if_false]
    by_cases h : size = n
    · simp [h]
    · have hne : ¬ ((size : Int) = n) := by omega
      have w1 : wrap64 ((size : Int) + 1) = ((size + 1 : Nat) : Int) := by unfold wrap64; omega
      have e3 : shl .i64 1 ((size + 1 : Nat) : Int) = ((2 ^ (size + 1) : Nat) : Int) := (by decide +kernel : ∀ m : Fin 12, shl .i64 1 (m.1 : Int) = ((2 ^ m.1 : Nat) : Int)) ⟨size + 1, by omega⟩
      have hp2 : 1 ≤ 2 ^ (size + 1) ∧ 2 ^ (size + 1) ≤ 1024 := ⟨Nat.one_le_two_pow, pow_le_1024 _ (by omega)⟩
      rw [if_neg hne, if_neg h, w1, e3, if_pos (by omega)]
      have : wrap64 (((2 ^ (size + 1) : Nat) : Int) - 1) = ((2 ^ (size + 1) - 1 : Nat) : Int) := by unfold wrap64; omega
      rw [this]
  | d + 1, k + 1, t, ht, hk, d' + 1, hd => by
    have hp := pow_le_1024 n hn
    have ht' : t < 2 ^ n := by omega
    simp only [nodeset_Next.l0, seek, if_pos ht']
    rw [below_eq _ n hn]
    have e2 : (decide (0 ≤ (t : Int)) && decide ((t : Int) < 2 ^ n)) = true := by
      have : ((t : Int) < 2 ^ n) := by have : ((2 ^ n : Nat) : Int) = 2 ^ n := by simp
                                       omega
      simp [this]
    rw [e2]
    simp only [Option.bind_some, if_true]
    rw [size_eqN t (by omega)]
    simp only [Option.bind_some]
    by_cases h : popc t = size
    · simp [h]
    · have hne : ¬ ((popc t : Int) = size) := by omega
      rw [if_neg hne, if_neg h]
      have w1 : wrap64 ((t : Int) + 1) = ((t + 1 : Nat) : Int) := by unfold wrap64; omega
      rw [w1]
      exact next_loop n hn size hs d k (t + 1) (by omega) (by omega) d' (by omega)
theorem next_eq (k n : Nat) (hk : 1026 ≤ k) (hn : n ≤ 10) (s : Nat) (hs : s < 2 ^ n) (hsz : popc s ≤ n) :
    nodeset_Next.f k s n = some (match nextN n s with | some u => ((u : Int), true) | none => (0, false)) := by
  have hp := pow_le_1024 n hn
  obtain ⟨k, rfl⟩ : ∃ m, k = m + 1 := ⟨k - 1, by omega⟩
  have e2 : (decide (0 ≤ (s : Int)) && decide ((s : Int) < 2 ^ n)) = true := by
    have : ((s : Int) < 2 ^ n) := by have : ((2 ^ n : Nat) : Int) = 2 ^ n := by simp
                                     omega
    simp [this]
  have w1 : wrap64 ((s : Int) + 1) = ((s + 1 : Nat) : Int) := by unfold wrap64; omega
  have hl := next_loop n hn (popc s) hsz (2 ^ n - (s + 1)) k (s + 1) (by omega) (by omega) 1024 (by omega)
  unfold nodeset_Next.f
  rw [if_neg (by omega), if_neg (by omega), below_eq _ n hn, e2]
  simp only [Option.bind_some, Bool.not_true, nodeset_Next.j0, Bool.false_eq_true, if_false]
  rw [size_eqN s (by omega)]
  simp only [Option.bind_some]
  rw [w1, hl]
  unfold nextN
  generalize seek n (popc s) 1024 (s + 1) = z
  cases z with
  | some u => rfl
  | none => by_cases h : popc s = n <;> simp [h]
end Go.Proofs.YtfkpimjiaijmgaaDoor.Q
end
section
namespace Go.Proofs.YtfkpimjiaijmgaaDoor.Q
open Go.RowKit Go.Proofs.YtfkpimjiaijmgaaDoor.G Go.Proofs.YtfkpimjiaijmgaaDoorW.PrintWords Go.Proofs.YtfkpimjiaijmgaaDoorW.PrintLast Go.Proofs.YtfkpimjiaijmgaaDoorW.PrintMore Go.Proofs.YtfkpimjiaijmgaaDoorV
set_option linter.unusedVariables false
theorem next_ev {n s : Nat} (hn : n ≤ 10) (hs : s < 2 ^ n) (hp : popc s ≤ n) : Ev (fun k => nodeset_Next.f k s n) (match nextN n s with | some u => ((u : Int), true) | none => (0, false)) := ⟨1026, fun k hk => next_eq k n hk hn s hs hp⟩
/-- Are these the least sets of a list? -/
def leastP (l : List Int) (x : Int) : Bool := l.contains x && (isSet x && l.all fun t => !isSet t || (!subI t x || t == x))
def checkL (l m : List Int) : Bool := decide (m.Pairwise before) && (m.all (leastP l) && l.all fun x => !leastP l x || m.contains x)
theorem leastP_iff {l : List Int} {x : Int} : leastP l x = true ↔ x ∈ leastL l := by
  rw [mem_leastL]
  unfold leastP
  simp only [Bool.and_eq_true, List.all_eq_true, List.contains_iff_mem, Bool.or_eq_true, Bool.not_eq_true', beq_iff_eq]
  constructor
  · rintro ⟨h1, h2, h3⟩
    refine ⟨h1, h2, fun t ht hs hu => ?_⟩
    rcases h3 t ht with h | h | h
    · rw [hs] at h; cases h
    · rw [hu] at h; cases h
    · exact h
  · rintro ⟨h1, h2, h3⟩
    refine ⟨h1, h2, fun t ht => ?_⟩
    cases hs : isSet t with
    | false => exact .inl rfl
    | true =>
      cases hu : subI t x with
      | false => exact .inr (.inl rfl)
      | true => exact .inr (.inr (h3 t ht hs hu))
theorem checkL_eq {l m : List Int} (h : checkL l m = true) : leastL l = m := by
  unfold checkL at h
  simp only [Bool.and_eq_true, decide_eq_true_eq, List.all_eq_true] at h
  refine leastL_eq h.1 fun x => ?_
  constructor
  · intro hx
    have := h.2.2 x (mem_leastL.1 hx).1
    rw [leastP_iff.2 hx] at this
    simpa using this
  · intro hx
    exact leastP_iff.1 (h.2.1 x hx)
theorem meeting_ex : nodeset_Meeting.f [3, 6] 3 = some ([2, 5], 0) := by
  have e1 : leastL [3, 6] = [3, 6] := checkL_eq (by decide +kernel)
  have e2 : meetG [3, 6] (2 ^ (3 : Int).toNat) 0 [] = [2, 3, 5, 6, 7] := by decide +kernel
  have e3 : leastL [2, 3, 5, 6, 7] = [2, 5] := checkL_eq (by decide +kernel)
  unfold nodeset_Meeting.f
  rw [if_neg (by decide), if_neg (by decide), if_neg (by decide +kernel), if_neg (by decide), e1, e2, e3]
theorem text_ex : nodeset_Text.f 30 37 = some ⟨#[123, 48, 32, 50, 32, 53, 125]⟩ := by decide +kernel
theorem ints_ex : trustquorummake_Ints.f 5 [2, 5] [2, 5] = some true := by decide +kernel
theorem awake_ev : Ev (fun k => trustquorumlaw01_awake.f k) true := by
  have h1 := next_ev (n := 6) (s := 37) (by omega) (by omega) (by decide)
  have e1 : nextN 6 37 = some 38 := by decide +kernel
  rw [e1] at h1
  have h2 : Ev (fun k => nodeset_Text.f k 37) ⟨#[123, 48, 32, 50, 32, 53, 125]⟩ := Ev.of (fun k => nodeset_Text.mono 37 k) text_ex
  have h3 : Ev (fun k => trustquorummake_Ints.f k [2, 5] [2, 5]) true := Ev.of (fun k => trustquorummake_Ints.mono [2, 5] [2, 5] k) ints_ex
  refine Ev.congr (fun k => by unfold trustquorumlaw01_awake.f; rfl) (Ev.bind h1 ?_)
  refine Ev.congr (fun k => by rw [meeting_ex]; simp only [Option.bind_some, if_true]; rw [if_pos (show ((38 : Nat) : Int) = 38 from rfl)]) (Ev.bind h2 ?_)
  refine Ev.congr (fun k => by rw [if_pos (by decide +kernel)]) (Ev.bind h3 (Ev.now _))
theorem rdg {l : List Int} {i : Nat} (h : i < l.length) : rd l (i : Int) = l[i] := by
  unfold rd; rw [List.getD_eq_getElem?_getD, Int.toNat_natCast, List.getElem?_eq_getElem h]; rfl
theorem upi {i : Nat} (h : i ≤ 4611686018427387904) : wrap64 ((i : Int) + 1) = ((i + 1 : Nat) : Int) := by rw [wrap_of (by omega) (by omega)]; omega
theorem shl_pow {n : Nat} (h : n ≤ 10) : shl .i64 1 (n : Int) = ((2 ^ n : Nat) : Int) := (by decide +kernel : ∀ m : Fin 11, shl .i64 1 (m.1 : Int) = ((2 ^ m.1 : Nat) : Int)) ⟨n, by omega⟩
theorem and_subI {a b : Int} (ha : isSet a = true) (hb : isSet b = true) : (Go.bits .and .i64 a b = a) ↔ subI a b = true := by
  obtain ⟨n, rfl, hn⟩ := isSet_nat ha
  obtain ⟨m, rfl, hm⟩ := isSet_nat hb
  rw [i64_and_nat n m (by omega) (by omega)]
  unfold subI
  simp only [Int.toNat_natCast, beq_iff_eq]
  omega
end Go.Proofs.YtfkpimjiaijmgaaDoor.Q
end
section
namespace Go.Proofs.YtfkpimjiaijmgaaDoor.Q
open Go.RowKit Go.Proofs.YtfkpimjiaijmgaaDoor.G Go.Proofs.YtfkpimjiaijmgaaDoorW.PrintWords Go.Proofs.YtfkpimjiaijmgaaDoorW.PrintLast Go.Proofs.YtfkpimjiaijmgaaDoorW.PrintMore Go.Proofs.YtfkpimjiaijmgaaDoorV
set_option linter.unusedVariables false
theorem sets_l0 {l : List Int} {m : Nat} (hm : m ≤ 10) : ∀ (r : Nat) (p : Int) (out : List Int), TI l p → out.length + r ≤ 1000000 → (∀ x ∈ out, 0 ≤ x ∧ x < ((2 ^ m : Nat) : Int)) →
    ∃ xs q, Ev (fun k => trustquorummake_Sets.l0 k m out r l p) (xs, q) ∧ xs.length = out.length + r ∧ (∀ x ∈ xs, 0 ≤ x ∧ x < ((2 ^ m : Nat) : Int)) ∧ TI l q
  | 0, p, out, hp, ho, hs => ⟨out, p, Ev.step (f := fun _ => some (out, p)) (fun k => by simp only [trustquorummake_Sets.l0]; rw [if_neg (by omega)]) (Ev.now _), rfl, hs, hp⟩
  | r + 1, p, out, hp, ho, hs => by
    have h1 : 1 ≤ 2 ^ m := Nat.one_le_two_pow
    have h2 := pow_le_1024 m hm
    obtain ⟨x, q, e, x0, x1, hq⟩ := tape_N hp ((2 ^ m : Nat) : Int) (by omega) (by omega)
    obtain ⟨xs, q2, e2, hl, hxs, hq2⟩ := sets_l0 hm r q (out ++ [x]) hq (by simp; omega) (fun y hy => by
      rcases List.mem_append.1 hy with h | h
      · exact hs y h
      · rw [List.mem_singleton.1 h]; exact ⟨x0, x1⟩)
    refine ⟨xs, q2, Ev.step (fun k => ?_) e2, by rw [hl]; simp; omega, hxs, hq2⟩
    have w : wrap64 (((r + 1 : Nat) : Int) - 1) = (r : Int) := by rw [wrap_of (by omega) (by omega)]; omega
    simp only [trustquorummake_Sets.l0]
    rw [if_pos (by omega), if_pos (by omega), shl_pow hm, e]
    simp only [Option.bind_some]
    rw [if_pos (by omega), w]
theorem tape_Sets {l : List Int} {p : Int} (h : TI l p) (n m : Nat) (hn : n ≤ 1000) (hm : m ≤ 10) :
    ∃ xs q, Ev (fun k => trustquorummake_Sets.f k l p n m) (xs, q) ∧ xs.length ≤ n ∧ (∀ x ∈ xs, 0 ≤ x ∧ x < ((2 ^ m : Nat) : Int)) ∧ TI l q := by
  obtain ⟨r, q, e, r0, r1, hq⟩ := tape_N h ((n : Int) + 1) (by omega) (by omega)
  obtain ⟨r, rfl⟩ := Int.eq_ofNat_of_zero_le r0
  obtain ⟨xs, q2, e2, hl, hxs, hq2⟩ := sets_l0 (l := l) hm r q [] hq (by simp; omega) (by simp)
  refine ⟨xs, q2, Ev.congr (fun k => ?_) e2, by simp at hl; omega, hxs, hq2⟩
  unfold trustquorummake_Sets.f
  rw [wrap_of (by omega) (by omega), e]; rfl
theorem keep_len : ∀ (l out : List Int), (keepLeast out l).length ≤ out.length + l.length
  | [], _ => by simp [keepLeast]
  | x :: l, out => by
    unfold keepLeast
    refine Nat.le_trans (keep_len l _) ?_
    split <;> simp <;> omega
theorem least_length (l : List Int) : (leastL l).length ≤ l.length := by
  have h1 := keep_len (sortSets (l.filter isSet)) []
  have h2 := (sortSets_perm (l.filter isSet)).length_eq
  have h3 := List.length_filter_le isSet l
  have h7 : ([] : List Int).length = 0 := rfl
  unfold leastL; omega
theorem least_some' {l : List Int} {x : Int} (h : x ∈ l) (hs : isSet x = true) : ∃ y ∈ leastL l, subI y x = true := by
  unfold leastL
  exact keep_some _ [] _ ((sortSets_perm _).mem_iff.2 (List.mem_filter.2 ⟨h, hs⟩))
end Go.Proofs.YtfkpimjiaijmgaaDoor.Q
end
section
namespace Go.Proofs.YtfkpimjiaijmgaaDoor.Q
open Go.RowKit Go.Proofs.YtfkpimjiaijmgaaDoor.G Go.Proofs.YtfkpimjiaijmgaaDoorW.PrintWords Go.Proofs.YtfkpimjiaijmgaaDoorW.PrintLast Go.Proofs.YtfkpimjiaijmgaaDoorW.PrintMore Go.Proofs.YtfkpimjiaijmgaaDoorV
set_option linter.unusedVariables false
theorem in_l0 (x : Int) : ∀ (d i : Nat) {l : List Int}, l.length ≤ 1073741824 → i + d = l.length → x ∈ l.drop i → Ev (fun k => trustquorummake_In.l0 k x l l.length i) true
  | 0, i, l, hl, hi, hx => by rw [List.drop_of_length_le (by omega)] at hx; cases hx
  | d + 1, i, l, hl, hi, hx => by
    have hlt : i < l.length := by omega
    rw [List.drop_eq_getElem_cons hlt] at hx
    by_cases e : x = l[i]
    · refine Ev.step (f := fun _ => some true) (fun k => ?_) (Ev.now _)
      simp only [trustquorummake_In.l0]
      rw [if_pos (by omega), if_pos (by omega), if_pos (by omega), rdg hlt, if_pos e]
    · have hx' : x ∈ l.drop (i + 1) := by
        rcases List.mem_cons.1 hx with h | h
        · exact absurd h e
        · exact h
      refine Ev.step (fun k => ?_) (in_l0 x d (i + 1) hl (by omega) hx')
      simp only [trustquorummake_In.l0]
      rw [if_pos (by omega), if_pos (by omega), if_pos (by omega), rdg hlt, if_neg e, upi (by omega)]
theorem in_ev {l : List Int} (hl : l.length ≤ 1073741824) {x : Int} (hx : x ∈ l) : Ev (fun k => trustquorummake_In.f k l x) true := in_l0 x l.length 0 hl (by omega) (by simpa using hx)
/-- Two sets of the list of least ones, at different places. -/
theorem least_apart {l : List Int} {i j : Nat} (hi : i < (leastL l).length) (hj : j < (leastL l).length) (h : i ≠ j) : subI (leastL l)[i] (leastL l)[j] = false := by
  have hs := leastL_sorted l
  rcases Nat.lt_or_ge i j with hlt | hge
  · exact (List.pairwise_iff_getElem.1 hs i j hi hj hlt).2
  · have hb := (List.pairwise_iff_getElem.1 hs j i hj hi (by omega)).1
    cases hu : subI (leastL l)[i] (leastL l)[j] with
    | false => rfl
    | true =>
      have h1 := mem_leastL.1 (List.getElem_mem hi)
      have h2 := mem_leastL.1 (List.getElem_mem hj)
      have := h2.2.2 _ h1.1 h1.2.1 hu
      rw [this] at hb
      exact absurd hb (before_irrefl _)
theorem nl_l3 {M l : List Int} (hM : M.length ≤ 1073741824) (hMs : ∀ y ∈ M, isSet y = true) {x : Int} (hx : isSet x = true) (c : Nat) {R : Bool} (h : Ev (fun k => trustquorumlaw01_NodesetLeast.l2 k M l l.length (wrap64 ((c : Int) + 1))) R) :
    ∀ (d i : Nat) (b : Bool), i + d = M.length → (b || (M.drop i).any fun y => subI y x) = true → Ev (fun k => trustquorumlaw01_NodesetLeast.l3 k M x b l l.length c M M.length i) R
  | 0, i, b, hi, hb => by
    rw [List.drop_of_length_le (by omega)] at hb
    simp only [List.any_nil, Bool.or_false] at hb
    refine Ev.step (fun k => ?_) h
    simp only [trustquorumlaw01_NodesetLeast.l3]
    rw [if_neg (by omega), if_pos hb]
  | d + 1, i, b, hi, hb => by
    have hlt : i < M.length := by omega
    rw [List.drop_eq_getElem_cons hlt, List.any_cons] at hb
    have hy := hMs M[i] (List.getElem_mem hlt)
    have e : (Go.bits .and .i64 M[i] x == M[i]) = subI M[i] x := by
      rw [Bool.eq_iff_iff, beq_iff_eq]; exact and_subI hy hx
    cases b with
    | true =>
      refine Ev.step (fun k => ?_) (nl_l3 hM hMs hx c h d (i + 1) true (by omega) (by simp))
      simp only [trustquorumlaw01_NodesetLeast.l3]
      rw [if_pos (by omega), if_pos (by omega), if_pos (by omega), upi (by omega)]; rfl
    | false =>
      refine Ev.step (fun k => ?_) (nl_l3 hM hMs hx c h d (i + 1) (subI M[i] x) (by omega) (by simpa using hb))
      simp only [trustquorumlaw01_NodesetLeast.l3]
      rw [if_pos (by omega), if_pos (by omega), if_pos (by omega), rdg hlt, e, upi (by omega)]; rfl
theorem nl_l2 {M l : List Int} (hM : M.length ≤ 1073741824) (hl : l.length ≤ 1073741824) (hMs : ∀ y ∈ M, isSet y = true) (hls : ∀ x ∈ l, isSet x = true) (hsome : ∀ x ∈ l, ∃ y ∈ M, subI y x = true) : ∀ (d i : Nat), i + d = l.length → Ev (fun k => trustquorumlaw01_NodesetLeast.l2 k M l l.length i) true
  | 0, i, hi => by
    refine Ev.step (f := fun k => (trustquorumlaw01_awake.f k).bind fun t => some t) (fun k => ?_) (Ev.bind awake_ev (Ev.now _))
    simp only [trustquorumlaw01_NodesetLeast.l2]; rw [if_neg (by omega)]
  | d + 1, i, hi => by
    have hlt : i < l.length := by omega
    have ih := nl_l2 hM hl hMs hls hsome d (i + 1) (by omega)
    obtain ⟨y, hy, hu⟩ := hsome l[i] (List.getElem_mem hlt)
    have h3 := nl_l3 (l := l) hM hMs (hls l[i] (List.getElem_mem hlt)) i (Ev.congr (fun k => by rw [upi (by omega)]) ih) M.length 0 false (by omega) (by simpa using ⟨y, hy, hu⟩)
    refine Ev.step (fun k => ?_) h3
    simp only [trustquorumlaw01_NodesetLeast.l2]
    rw [if_pos (by omega), if_pos (by omega), if_pos (by omega), rdg hlt]; rfl
theorem nl_l1 {M l : List Int} (hM : M.length ≤ 1073741824) (hl : l.length ≤ 1073741824) (hMs : ∀ y ∈ M, isSet y = true) {c : Nat} (hc : c < M.length) (hin : M[c] ∈ l) (hap : ∀ j (hj : j < M.length), c ≠ j → subI M[c] M[j] = false) {R : Bool} (h : Ev (fun k => trustquorumlaw01_NodesetLeast.l0 k l M M M.length (wrap64 ((c : Int) + 1))) R) :
    ∀ (d i : Nat), i + d = M.length → Ev (fun k => trustquorumlaw01_NodesetLeast.l1 k l M c M[c] M M.length c M M.length i) R
  | 0, i, hi => by
    refine Ev.step (f := fun k => (trustquorummake_In.f k l M[c]).bind fun t => if t = true then trustquorumlaw01_NodesetLeast.l0 k l M M M.length (wrap64 ((c : Int) + 1)) else some false) (fun k => ?_) (Ev.bind (in_ev hl hin) (Ev.congr (fun k => if_pos rfl) h))
    simp only [trustquorumlaw01_NodesetLeast.l1]; rw [if_neg (by omega)]
  | d + 1, i, hi => by
    have hlt : i < M.length := by omega
    refine Ev.step (fun k => ?_) (nl_l1 hM hl hMs hc hin hap h d (i + 1) (by omega))
    simp only [trustquorumlaw01_NodesetLeast.l1]
    rw [if_pos (by omega), if_pos (by omega), if_pos (by omega), upi (by omega)]
    by_cases e : (c : Int) = (i : Int)
    · rw [if_pos e]
    · rw [if_neg e, rdg hlt, if_neg]
      intro hu
      have h1 := (and_subI (hMs M[c] (List.getElem_mem hc)) (hMs M[i] (List.getElem_mem hlt))).1 hu
      rw [hap i hlt (by omega)] at h1
      cases h1
theorem nl_l0 {M l : List Int} (hM : M.length ≤ 1073741824) (hl : l.length ≤ 1073741824) (hMs : ∀ y ∈ M, isSet y = true) (hls : ∀ x ∈ l, isSet x = true) (hsome : ∀ x ∈ l, ∃ y ∈ M, subI y x = true) (hin : ∀ y ∈ M, y ∈ l) (hap : ∀ i j (hi : i < M.length) (hj : j < M.length), i ≠ j → subI M[i] M[j] = false) :
    ∀ (d i : Nat), i + d = M.length → Ev (fun k => trustquorumlaw01_NodesetLeast.l0 k l M M M.length i) true
  | 0, i, hi => by
    refine Ev.step (fun k => ?_) (nl_l2 hM hl hMs hls hsome l.length 0 (by omega))
    simp only [trustquorumlaw01_NodesetLeast.l0]; rw [if_neg (by omega)]; rfl
  | d + 1, i, hi => by
    have hlt : i < M.length := by omega
    have ih := nl_l0 hM hl hMs hls hsome hin hap d (i + 1) (by omega)
    have h1 := nl_l1 hM hl hMs hlt (hin _ (List.getElem_mem hlt)) (fun j hj hne => hap i j hlt hj hne) (Ev.congr (fun k => by rw [upi (by omega)]) ih) M.length 0 (by omega)
    refine Ev.step (fun k => ?_) h1
    simp only [trustquorumlaw01_NodesetLeast.l0]
    rw [if_pos (by omega), if_pos (by omega), if_pos (by omega), rdg hlt]; rfl
theorem nodesetLeast_true : trustquorumlaw01_NodesetLeast.Pure := by
  intro l0 _ _ _
  obtain ⟨tl, e0, hp0⟩ := tape_new l0
  obtain ⟨n, p1, e1, n0, n1, hp1⟩ := tape_Range hp0 1 9 (by omega) (by omega) (by omega)
  obtain ⟨n, rfl⟩ := Int.eq_ofNat_of_zero_le (show 0 ≤ n by omega)
  obtain ⟨xs, q, e2, hxl, hxs, hq⟩ := tape_Sets hp1 12 n (by omega) (by omega)
  have hp2 := pow_le_1024 n (by omega)
  have hls : ∀ x ∈ xs, isSet x = true := fun x hx => by have := hxs x hx; simp [isSet]; omega
  have hll := least_length xs
  have h := nl_l0 (M := leastL xs) (l := xs) (by omega) (by omega) (fun y hy => (mem_leastL.1 hy).2.1) hls (fun x hx => least_some' hx (hls x hx)) (fun y hy => (mem_leastL.1 hy).1) (fun i j hi hj hne => least_apart hi hj hne) (leastL xs).length 0 (by omega)
  refine Ev.rounds (g := fun k => trustquorumlaw01_NodesetLeast.f k l0) ?_
  have e3 : nodeset_Least.f xs = some (leastL xs) := by unfold nodeset_Least.f; rw [if_pos (by omega)]
  refine Ev.congr (f := fun k => (trustquorummake_Sets.f k tl p1 12 n).bind fun b => (nodeset_Least.f b.1).bind fun t => trustquorumlaw01_NodesetLeast.l0 k b.1 t t t.length 0) (fun k => ?_) (Ev.bind e2 (Ev.congr (fun k => ?_) h))
  · unfold trustquorumlaw01_NodesetLeast.f
    rw [e0]; simp only [Option.bind_some]; rw [e1]; rfl
  · rw [e3]; rfl
end Go.Proofs.YtfkpimjiaijmgaaDoor.Q
end
section
namespace Go.Proofs.YtfkpimjiaijmgaaDoor.Pure
open Go.RowKit Go.Proofs.YtfkpimjiaijmgaaDoor.G Go.Proofs.YtfkpimjiaijmgaaDoorW.PrintWords Go.Proofs.YtfkpimjiaijmgaaDoorW.PrintLast
/-- YOURS: ∀ (l0 : List Int), l0.length ≤ maxLen → l0.length * 8 ≤ 140737488351232 → (∀ x ∈ l0, (Lit.int .i64 x).wf = true) → ∃ k, trustquorumlaw01_NodesetLeast.f k l0 = some true
What it reaches (each with k first where it has rounds; `.mono`: more rounds tell the same; `.l0`, ..: its loops, with `.mono_l`): nodeset_below.f, nodeset_Valid.f, bits_OnesCount64.f, bits_OnesCount.f, nodeset_Size.f, nodeset_Next.f, cmp_Or_int.f, cmp_isNaN_int.f, cmp_Compare_int.f, nodeset_rank.f, nodeset_Compare.f, nodeset_Least.f, nodeset_Meeting.f, trustquorummake_Ints.f, nodeset_Has.f, nodeset_Nodes.f, strconv_Itoa.f, strings_Join.f, nodeset_Text.f, trustquorumlaw01_awake.f, trustquorummake_New.f, trustquorummake_Tape_N.f, trustquorummake_Sets.f, trustquorummake_Tape_Range.f, trustquorummake_In.f, trustquorumlaw01_NodesetLeast.f -/
theorem NodesetLeast : trustquorumlaw01_NodesetLeast.Pure := Q.nodesetLeast_true
end Go.Proofs.YtfkpimjiaijmgaaDoor.Pure
end
section
namespace Go.Proofs.YtfkpimjiaijmgaaDoor.nodesetLeast
open Go.ChangeShapes Go.WideShapes Go.ChangeAt Go.RowKit
open Go.ChangeMaps (open_string shut_string)
set_option linter.unusedVariables false
theorem own : ownKnob Tryd.prog.godebug = none := by kernel_rfl
theorem laidOut : laidOutB Tryd.prog = true := by kernel_rfl
def IsRow (k : IntKind) (w : World) (a : Option Addr) (len cap : Nat) (zs : List Int) : Prop :=
  (a = none ∧ len = 0 ∧ cap = 0 ∧ zs = []) ∨
  ∃ x, a = some x ∧ len ≤ cap ∧ cap ≤ maxLen ∧ zs.length = cap ∧ (∀ i, i < zs.length → w.cell? (x.add i) = some (.int k (zs.getD i 0))) ∧ ∀ n ∈ zs, (Lit.int k n).wf = true
/-- The door's own heap meets the condition: three closed facts. -/
theorem door_met (os : Os) (args : Array Value) : laidMetH Tryd.prog Rows.nodesetLeastRow.laid ((World.doorLaid Tryd.prog 400 os).forCall (fun _ _ => 0) ⟨#[], args, []⟩).memory :=
  laidMetH_of_parts3 (fuel := 8) (laidMet_of_run' 8 (by kernel_rfl) (by kernel_rfl)) (by kernel_rfl) (by kernel_rfl)
set_option maxRecDepth 100000 in
theorem lifted (os : Os) (started : os.Started) (H : Type) (enc : TypeId × Value → H) :
    ReturnsInHanded {} Tryd.checked os 4 .any (fun w args => (Rows.nodesetLeastSpec.pre enc Tryd.prog Tryd.f4 [] false w args ∧ laidMetH Tryd.prog Rows.nodesetLeastRow.laid w) ∧ sizedMet enc Tryd.prog Tryd.f4 (OpenSpec.ofChange Rows.nodesetLeastSpec) false w args) (Rows.nodesetLeastSpec.post enc Tryd.prog Tryd.f4 false true false false) := by
  refine returnsInHanded_of_change_and (C := Tryd.checked) (X := fun w _ => laidMetH Tryd.prog Rows.nodesetLeastRow.laid w) (fun _ _ _ hh h => h.of_heap hh) own started (by kernel_rfl) Tryd.func4
    (ChangeSpec.witness_shaped (enc := enc) (C := Tryd.checked) (os := os) (X := fun w _ => laidMetH Tryd.prog Rows.nodesetLeastRow.laid w) false (World.doorLaid Tryd.prog 400 os) #[.slice none 0 0] 8 rfl (World.shaped_of_RefB (by kernel_rfl) (by kernel_rfl)) (by kernel_rfl) (by kernel_rfl) (by kernel_rfl) (door_met os _)) ?_
  intro W base args ds gs before hval0 hW hcnd hsz0 _ _
  have hsz : (DataW.weightsEach Tryd.prog (Tryd.f4.params.toList ++ Rows.nodesetLeastSpec.plain.varTypes Tryd.prog) (ds ++ gs)).all (· ≤ reachBytes) = true := hsz0
  have hval : ∀ (j : Nat) t v, Tryd.f4.params[j]? = some t → args[j]? = some v → Value.okWide Tryd.prog W .any base t v := hval0
  have hW' := hW
  obtain ⟨p, q, hA0, hV, rfl, hfz, hnd⟩ := hW
  have hA : DataW.TrodAll enc Tryd.prog W 0 (fun _ => true) true Tryd.f4.params.toList args.toList ds p := hA0
  rw [Tryd.params4] at hA hval hsz
  obtain ⟨v0, vs0, d0, ds0, p0, q0, hargs, rfl, rfl, h0, r0⟩ := trodAll_cons hA
  obtain ⟨rfl, rfl, rfl⟩ := trodAll_nil r0
  obtain rfl : args = #[v0] := by cases args; simp_all
  obtain ⟨rfl, rfl⟩ := trodVars_none hV
  obtain ⟨a0, len0, cap0, rfl⟩ := okWide_slice Tryd.underlying27 (hval 0 27 v0 rfl rfl)
  have k0 := h0
  have lt0 : ∀ x ∈ p0, x.block < W.heap.size := by obtain ⟨m, hm⟩ := k0; exact DataW.trod_lt m _ _ _ hm
  obtain ⟨z0, w0⟩ : ∃ zs, IsRow .i64 W a0 len0 cap0 zs := by
    obtain ⟨fuel, hf⟩ := h0
    rcases open_ints Tryd.underlying27 Tryd.underlying3 (by kernel_rfl) hf with ⟨hcs, _⟩ | ⟨x, l, c, zs, hcs, _, hl, hm, hz, _, hcell, hwz⟩
    · simp [Value.cells] at hcs
      obtain ⟨rfl, rfl, rfl⟩ := hcs
      exact ⟨[], .inl ⟨rfl, rfl, rfl, rfl⟩⟩
    · simp [Value.cells] at hcs
      obtain ⟨rfl, rfl, rfl⟩ := hcs
      exact ⟨zs, .inr ⟨_, rfl, hl, hm, by simpa using hz, hcell, hwz⟩⟩
  have y0 : len0 * 8 ≤ 140737488351232 := Go.Proofs.YtfkpimjiaijmgaaDoorW.PrintWords.sized_ints hsz (j := 0) (t := 27) rfl rfl Tryd.underlying27 Tryd.underlying3 (by kernel_rfl) (by kernel_rfl) h0
  clear hA0 hval0 hsz0 hsz
  refine (G.trustquorumlaw01_NodesetLeast.walk Pure.NodesetLeast a0 len0 cap0 z0 W w0 y0).mono fun e W' ⟨he, bel⟩ => ?_
  subst he
  exact ⟨_, rfl, _, _, _, [], _, [], hW', trodAll_mk1 (shut_bool Tryd.underlying4 _), (trodAll_cons_mk (Below.trod laidOut (by kernel_rfl) (of_decide_eq_true (by kernel_rfl)) k0 bel lt0) trodAll_mk0), rfl, bel.frame _, fun h => by cases h⟩
theorem over : Rows.nodesetLeastRow.holds Tryd.pinned (OpenSpec.ofChange Rows.nodesetLeastSpec) :=
  OpenClaim.holds_of_wide 4 Tryd.f4 rfl rfl rfl rfl rfl rfl rfl ⟨rfl, rfl, rfl, rfl, rfl⟩ rfl rfl rfl rfl rfl (by kernel_rfl) Tryd.func4 (by kernel_rfl)
    (of_decide_eq_true (by kernel_rfl)) (by unfold Func.isWrapper; first | (rw [if_pos (by decide +kernel)]; kernel_rfl) | (rw [if_neg (by decide +kernel)]; exact ⟨rfl, rfl⟩))
    (fun os started H enc _ => lifted os started H enc)
theorem proved : Rows.NodesetLeastSaid := over
end Go.Proofs.YtfkpimjiaijmgaaDoor.nodesetLeast
namespace Go.Proofs.YtfkpimjiaijmgaaDoor
/-- The tied card, for the claim. -/
theorem nodesetLeast_holds : Rows.NodesetLeastCardSaid :=
  Claim7.holds_tied_plain_at .later [] [.data, .data, .data] true (true, "e8da6328cacec61c5287b810aaa4802ec8fe0ed63228956437a4b3d0edbd7f4d") false
    nodesetLeast.proved (fun _ h => by cases h) (by kernel_rfl) (fun _ h => by cases h) nodesetLeast_row_tie rfl ⟨rfl, rfl⟩ (by kernel_rfl) rfl
    (fun f fn hf hfn => by
      obtain rfl : f = 4 := Option.some.inj ((show Tryd.prog.funcNamed "trustquorum/trustquorumlaw01.NodesetLeast" = some 4 by kernel_rfl).symm.trans hf) |>.symm
      obtain rfl : fn = Tryd.f4 := (Option.some.inj (Tryd.func4.symm.trans hfn)).symm
      exact ⟨by kernel_rfl, fun j t ht => by
        rw [Tryd.params4] at ht
        have hm : t ∈ [27] := by simpa using Array.mem_of_getElem? ht
        have hall : ([27].all fun u => !Tryd.prog.wantsStandIn u) = true := by kernel_rfl
        exact (show Tryd.prog.wantsStandIn t = false by simpa using List.all_eq_true.1 hall t hm)⟩)
    (by kernel_rfl)
end Go.Proofs.YtfkpimjiaijmgaaDoor
end
#print axioms Go.Proofs.YtfkpimjiaijmgaaDoor.nodesetLeast_holds
