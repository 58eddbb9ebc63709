/- SlicesDual: the texts of the claim, put together (part 5 of 6). The law is proved in the last one: it takes no condition beyond the statement's own. -/
import Derived.Test.YtfkpimjiaijmgaaCSlicesDual3
section
namespace Go.Proofs.Ytfkpimjiaijmgaa.G
open Go.RowKit Go.Proofs.YtfkpimjiaijmgaaW.PrintWords Go.Proofs.YtfkpimjiaijmgaaW.PrintLast Go.Proofs.YtfkpimjiaijmgaaW.PrintMore
attribute [local go_sem] max2_int min2_int max_two min_two max_three min_three max_four min_four   -- for this text's walks alone
set_option linter.unusedVariables false
set_option linter.unusedSimpArgs false
mutual
def trustquorumref01_Meeting.j0 : Nat → List Int → Int → Bool → Option (List Int × Int)
  | 0, _, _, _ => none
  | k + 1, x0, x1, x18 => if x18 = true then (some (([] : List Int), 1)) else (trustquorumref01_Meeting.l0 k x0 x1 x0 (x0.length : Int) 0)
def trustquorumref01_Meeting.l0 : Nat → List Int → Int → List Int → Int → Int → Option (List Int × Int)
  | 0, _, _, _, _, _ => none
  | k + 1, x0, x1, x19, x20, x21 => if x21 < x20 then (if 0 ≤ x21 then (if x21 < (x19.length : Int) then (if (rd x19 x21) < 0 then (some (([] : List Int), 1)) else (if 0 ≤ x1 then (if (rd x19 x21) ≥ (shl .i64 1 x1) then (some (([] : List Int), 1)) else (trustquorumref01_Meeting.l0 k x0 x1 x19 x20 (wrap64 (x21 + 1)))) else (none))) else (none)) else (none)) else (if (x0.length : Int) > 1024 then (some (([] : List Int), 3)) else (trustquorumref01_Meeting.l1 k x0 x1 ([] : List Int) 0))
def trustquorumref01_Meeting.l1 : Nat → List Int → Int → List Int → Int → Option (List Int × Int)
  | 0, _, _, _, _ => none
  | k + 1, x0, x1, x8, x9 => if 0 ≤ x1 then (if x9 < (shl .i64 1 x1) then (trustquorumref01_Meeting.l2 k x0 x1 x8 x9 true x0 (x0.length : Int) 0) else ((trustquorumref01_Least.f x8).bind fun t294 => (some (t294, 0)))) else (none)
def trustquorumref01_Meeting.l2 : Nat → List Int → Int → List Int → Int → Bool → List Int → Int → Int → Option (List Int × Int)
  | 0, _, _, _, _, _, _, _, _ => none
  | k + 1, x0, x1, x8, x9, x10, x43, x44, x45 => if x45 < x44 then (if 0 ≤ x45 then (if x45 < (x43.length : Int) then (if x10 = true then (trustquorumref01_Meeting.l2 k x0 x1 x8 x9 ((Go.bits .and .i64 (rd x43 x45) x9) != 0) x43 x44 (wrap64 (x45 + 1))) else (trustquorumref01_Meeting.l2 k x0 x1 x8 x9 false x43 x44 (wrap64 (x45 + 1)))) else (none)) else (none)) else (if x10 = true then (if x8.length < 17592186044416 then (trustquorumref01_Meeting.l1 k x0 x1 (x8 ++ [x9]) (wrap64 (x9 + 1))) else (none)) else (trustquorumref01_Meeting.l1 k x0 x1 x8 (wrap64 (x9 + 1))))
end
def trustquorumref01_Meeting.f (k : Nat) (l0 : List Int) (a1 : Int) : Option (List Int × Int) := if a1 < 0 then (trustquorumref01_Meeting.j0 k l0 a1 true) else (trustquorumref01_Meeting.j0 k l0 a1 (decide (a1 > 10)))
set_option maxHeartbeats 8000000 in
set_option maxRecDepth 100000 in
theorem trustquorumref01_Meeting.calls (k : Nat) (A0 : Option Addr) (c0 : Nat) (l0 : List Int) (a1 : Int) (r1 : List Int) (r2 : Int) (w : World) (hr0 : Kd.C (Kd.int .i64) w A0 l0.length l0) (hc0 : l0.length ≤ c0) (h : trustquorumref01_Meeting.f k l0 a1 = some (r1, r2)) :
    Calls Try.prog 15 #[.slice A0 l0.length c0, .int .i64 a1] w fun e w' => ∃ v0_ : Value, e = .returned (.tuple #[v0_, .int .i64 r2]) ∧ Kd.R (Kd.int .i64) 3 w' w.heap.size (fun _ => True) v0_ r1 ∧ Below w.heap.size w w' := by
  have HR0 := Aside0.mk hr0
  have HC0 := Aside0.mk hc0
  clear hr0 hc0
  have HB := Aside0.mk (Below.refl w.heap.size w)
  have H : (if a1 < 0 then (trustquorumref01_Meeting.j0 k l0 a1 true) else (trustquorumref01_Meeting.j0 k l0 a1 (decide (a1 > 10)))) = some (r1, r2) := h
  clear h
  have HC3 := Aside0.mk H
  clear H
  go_enter Try.func15, Try.ntmps15
  go_upto_region 1 with (fail)
  go_cut [18] (fun v18 wc => ∃ (kq : Nat) (x18_2 : Bool), v18 = .bool x18_2 ∧ Aside0 (trustquorumref01_Meeting.j0 kq l0 a1 x18_2 = some (r1, r2)) ∧ Aside0 (kq ≤ k) ∧ Aside0 (Below w.heap.size w wc))
  case first =>
    have H := HC3.out
    clear HC3
    by_cases c4 : a1 < 0
    · rw [if_pos c4] at H
      have c4b0 : decide (a1 < 0) = true := decide_eq_true c4
      clear c4
      (first | rw [c4b0] | (simp only [i64_w, i32_w]; rw [c4b0]) | skip)
      have H' := Aside0.mk H
      clear H
      go_wp2
      go_meet
      case rel => exact ⟨_, (true), (by first | rfl | (simp; done) | (simp [*]; done)), H', ⟨by first | omega | exact Nat.le_refl _⟩, ⟨by repeat (first | (with_reducible first | exact HB.out | apply below_alloc | apply pw_below_drewN | apply below_drew1) | exact HB.out)⟩⟩
    · rw [if_neg c4] at H
      have c4b0 : decide (a1 < 0) = false := decide_eq_false c4
      clear c4
      (first | rw [c4b0] | (simp only [i64_w, i32_w]; rw [c4b0]) | skip)
      have H' := Aside0.mk H
      clear H
      go_wp2
      go_meet
      case rel => exact ⟨_, (decide (a1 > 10)), (by first | rfl | (simp; done) | (simp [*]; done)), H', ⟨by first | omega | exact Nat.le_refl _⟩, ⟨by repeat (first | (with_reducible first | exact HB.out | apply below_alloc | apply pw_below_drewN | apply below_drew1) | exact HB.out)⟩⟩
  case rest =>
    clear HC3
    try clear c1
    try clear p2
    try clear c4
    try clear c4b0
    obtain ⟨kq, x18_2, rfl, HA, HJ2, HB⟩ := hcut
    cases kq with
    | zero => exact absurd HA.out (by simp [trustquorumref01_Meeting.j0])
    | succ kj2 =>
      have H := HA.out
      clear HA
      simp only [trustquorumref01_Meeting.j0] at H
      by_cases c5 : x18_2 = true
      · subst c5
        have H1 : (some (([] : List Int), 1)) = some (r1, r2) := by rw [if_pos rfl] at H; exact H
        clear H
        have H := H1
        clear H1
        simp only [Option.some.injEq, Prod.mk.injEq] at H
        obtain ⟨rfl, rfl⟩ := H
        go_wp2
        go_ret2
        exact ⟨_, by first | rfl | (simp [errW_none, errW_some] <;> rfl) | (simp [*, errW_none, errW_some] <;> rfl), by first | exact Kd.R_nil _ _ _ _ _ | exact Kd.N_nil _ _ _ _ _ | exact Kd.V_nil _ _ _ _ _ | exact Kd.Q_nil _ _ _ _ _ | exact Kd.S_nil _ _ _ _ _, by repeat (first | (with_reducible first | exact HB.out | apply below_alloc | apply pw_below_drewN | apply below_drew1) | exact HB.out)⟩
      · replace c5 := Bool.eq_false_iff.mpr c5
        subst c5
        have H1 : (trustquorumref01_Meeting.l0 kj2 l0 a1 l0 (l0.length : Int) 0) = some (r1, r2) := by rw [if_neg (show ¬ (false = true) by decide)] at H; exact H
        clear H
        have H := H1
        clear H1
        have H' := Aside0.mk H
        clear H
        go_wp2
        go_loopg [21] kj2 (fun kq v21 w' => ∃ (x21_2 : Int), v21 = .int .i64 x21_2 ∧ Aside0 (trustquorumref01_Meeting.l0 kq l0 a1 l0 (l0.length : Int) x21_2 = some (r1, r2)) ∧ Aside0 (kq ≤ kj2) ∧ Aside0 (Below w.heap.size w w'))
        case atStart => exact ⟨(0), (by first | rfl | (simp; done) | (simp [*]; done)), H', ⟨Nat.le_refl _⟩, ⟨by repeat (first | (with_reducible first | exact HB.out | apply below_alloc | apply pw_below_drewN | apply below_drew1) | exact HB.out)⟩⟩
        case round =>
          clear H'
          try clear c1
          try clear p2
          try clear c4
          try clear c4b0
          try clear c5
          try clear p2
          obtain ⟨x21_2, rfl, HA, HK2, HB⟩ := hrel
          cases gk with
          | zero => exact absurd HA.out (by simp [trustquorumref01_Meeting.l0])
          | succ k2 =>
            have H := HA.out
            clear HA
            simp only [trustquorumref01_Meeting.l0] at H
            by_cases c6 : x21_2 < (l0.length : Int)
            · rw [if_pos c6] at H
              have c6b0 : decide (x21_2 < (l0.length : Int)) = true := decide_eq_true c6
              clear c6
              by_cases c7 : 0 ≤ x21_2
              · rw [if_pos c7] at H
                have c7b0 : decide (0 ≤ x21_2) = true := decide_eq_true c7
                clear c7
                by_cases c8 : x21_2 < (l0.length : Int)
                · rw [if_pos c8] at H
                  have c8b0 : decide (x21_2 < (l0.length : Int)) = true := decide_eq_true c8
                  clear c8
                  by_cases c9 : (rd l0 x21_2) < 0
                  · rw [if_pos c9] at H
                    have c9b0 : decide ((rd l0 x21_2) < 0) = true := decide_eq_true c9
                    clear c9
                    simp only [Option.some.injEq, Prod.mk.injEq] at H
                    obtain ⟨rfl, rfl⟩ := H
                    have p293 : 0 ≤ (x21_2 : Int) := of_decide_eq_true (by first | (with_reducible assumption) | assumption)
                    have q293 : x21_2 < (l0.length : Int) := of_decide_eq_true (by first | (with_reducible assumption) | assumption)
                    obtain ⟨ad293, e293, hx293_0⟩ := Kd.at_int HR0.out x21_2 p293 q293
                    cases e293
                    replace hx293_0 := (HB.out.cell (World.block_lt_of_cell? w _ hx293_0)).trans hx293_0
                    replace p293 := eq_true p293
                    replace q293 := eq_true q293
                    go_wp2
                    go_ret2
                    exact ⟨_, by first | rfl | (simp [errW_none, errW_some] <;> rfl) | (simp [*, errW_none, errW_some] <;> rfl), by first | exact Kd.R_nil _ _ _ _ _ | exact Kd.N_nil _ _ _ _ _ | exact Kd.V_nil _ _ _ _ _ | exact Kd.Q_nil _ _ _ _ _ | exact Kd.S_nil _ _ _ _ _, by repeat (first | (with_reducible first | exact HB.out | apply below_alloc | apply pw_below_drewN | apply below_drew1) | exact HB.out)⟩
                  · rw [if_neg c9] at H
                    have c9b0 : decide ((rd l0 x21_2) < 0) = false := decide_eq_false c9
                    clear c9
                    by_cases c10 : 0 ≤ a1
                    · rw [if_pos c10] at H
                      have c10b0 := eq_true c10
                      have c10b1 : decide (0 ≤ a1) = true := decide_eq_true c10
                      clear c10
                      obtain ⟨ji11, hji11⟩ : ∃ j_ : Int, (shl .i64 1 a1) = j_ := ⟨_, rfl⟩
                      replace H : (if (rd l0 x21_2) ≥ (ji11) then (some (([] : List Int), 1)) else (trustquorumref01_Meeting.l0 k2 l0 a1 l0 (l0.length : Int) (wrap64 (x21_2 + 1)))) = some (r1, r2) := by first | (rw [hji11] at H; exact H) | (simp only [hji11] at H ⊢; exact H)
                      have hji11_ : (IntKind.i64.wrap (1 * 2 ^ min a1.toNat 64)) = ji11 := hji11
                      have hji11z : a1 ≤ 64 → (IntKind.i64.wrap (1 * 2 ^ a1.toNat)) = ji11 := shl_small hji11
                      have hji11u : (IntKind.i64.wrap (2 ^ min a1.toNat 64)) = ji11 := by have h_ := hji11_; rw [Int.one_mul] at h_; exact h_
                      have hji11v : a1 ≤ 64 → (IntKind.i64.wrap (2 ^ a1.toNat)) = ji11 := fun hle_ => by have h_ := hji11z hle_; rw [Int.one_mul] at h_; exact h_
                      have hji11y : (wrap64 (1 * 2 ^ min a1.toNat 64)) = ji11 := (i64_w _).symm.trans hji11_
                      have hji11x : a1 ≤ 64 → (wrap64 (1 * 2 ^ a1.toNat)) = ji11 := fun h_ => (i64_w _).symm.trans (hji11z h_)
                      by_cases c12 : (rd l0 x21_2) ≥ (ji11)
                      · rw [if_pos c12] at H
                        have c12b0 : decide ((ji11) ≤ (rd l0 x21_2)) = true := decide_eq_true c12
                        clear c12
                        simp only [Option.some.injEq, Prod.mk.injEq] at H
                        obtain ⟨rfl, rfl⟩ := H
                        have p293 : 0 ≤ (x21_2 : Int) := of_decide_eq_true (by first | (with_reducible assumption) | assumption)
                        have q293 : x21_2 < (l0.length : Int) := of_decide_eq_true (by first | (with_reducible assumption) | assumption)
                        obtain ⟨ad293, e293, hx293_0⟩ := Kd.at_int HR0.out x21_2 p293 q293
                        cases e293
                        replace hx293_0 := (HB.out.cell (World.block_lt_of_cell? w _ hx293_0)).trans hx293_0
                        replace p293 := eq_true p293
                        replace q293 := eq_true q293
                        go_wp2
                        go_ret2
                        exact ⟨_, by first | rfl | (simp [errW_none, errW_some] <;> rfl) | (simp only [← hji11]; first | rfl | (simp [errW_none, errW_some] <;> rfl)) | (simp [*, errW_none, errW_some] <;> rfl), by first | exact Kd.R_nil _ _ _ _ _ | exact Kd.N_nil _ _ _ _ _ | exact Kd.V_nil _ _ _ _ _ | exact Kd.Q_nil _ _ _ _ _ | exact Kd.S_nil _ _ _ _ _, by repeat (first | (with_reducible first | exact HB.out | apply below_alloc | apply pw_below_drewN | apply below_drew1) | exact HB.out)⟩
                      · rw [if_neg c12] at H
                        have c12b0 : decide ((ji11) ≤ (rd l0 x21_2)) = false := decide_eq_false c12
                        clear c12
                        have H' := Aside0.mk H
                        clear H
                        have p293 : 0 ≤ (x21_2 : Int) := of_decide_eq_true (by first | (with_reducible assumption) | assumption)
                        have q293 : x21_2 < (l0.length : Int) := of_decide_eq_true (by first | (with_reducible assumption) | assumption)
                        obtain ⟨ad293, e293, hx293_0⟩ := Kd.at_int HR0.out x21_2 p293 q293
                        cases e293
                        replace hx293_0 := (HB.out.cell (World.block_lt_of_cell? w _ hx293_0)).trans hx293_0
                        replace p293 := eq_true p293
                        replace q293 := eq_true q293
                        go_wp2
                        go_roundg k2
                        case measure => have := HJ2.out; have := HK2.out; omega
                        case rel => exact ⟨(wrap64 (x21_2 + 1)), (by first | rfl | (simp; done) | (simp [*]; done)), H', ⟨by have := HJ2.out; have := HK2.out; omega⟩, ⟨by repeat (first | (with_reducible first | exact HB.out | apply below_alloc | apply pw_below_drewN | apply below_drew1) | exact HB.out)⟩⟩
                    · rw [if_neg c10] at H
                      exact absurd H (by simp)
                · rw [if_neg c8] at H
                  exact absurd H (by simp)
              · rw [if_neg c7] at H
                exact absurd H (by simp)
            · rw [if_neg c6] at H
              have c6b0 : decide (x21_2 < (l0.length : Int)) = false := decide_eq_false c6
              clear c6
              by_cases c13 : (l0.length : Int) > 1024
              · rw [if_pos c13] at H
                have c13b0 : decide (1024 < (l0.length : Int)) = true := decide_eq_true c13
                have c13b1 : decide (1024 < l0.length) = true := decide_eq_true (by omega)
                clear c13
                simp only [Option.some.injEq, Prod.mk.injEq] at H
                obtain ⟨rfl, rfl⟩ := H
                go_wp2
                go_ret2
                exact ⟨_, by first | rfl | (simp [errW_none, errW_some] <;> rfl) | (simp [*, errW_none, errW_some] <;> rfl), by first | exact Kd.R_nil _ _ _ _ _ | exact Kd.N_nil _ _ _ _ _ | exact Kd.V_nil _ _ _ _ _ | exact Kd.Q_nil _ _ _ _ _ | exact Kd.S_nil _ _ _ _ _, by repeat (first | (with_reducible first | exact HB.out | apply below_alloc | apply pw_below_drewN | apply below_drew1) | exact HB.out)⟩
              · rw [if_neg c13] at H
                have c13b0 : decide (1024 < (l0.length : Int)) = false := decide_eq_false c13
                have c13b1 : decide (1024 < l0.length) = false := decide_eq_false (by omega)
                clear c13
                have H' := Aside0.mk H
                clear H
                go_wp2
                go_loopg [8, 9] k2 (fun kq v8 v9 w' => ∃ (x8_3 : List Int) (x9_3 : Int), v9 = .int .i64 x9_3 ∧ Aside0 (trustquorumref01_Meeting.l1 kq l0 a1 x8_3 x9_3 = some (r1, r2)) ∧ Aside0 (kq ≤ k2) ∧ Aside0 (Kd.R (Kd.int .i64) 3 w' w.heap.size (fun _ => True) v8 x8_3) ∧ Aside0 (Below w.heap.size w w'))
                case atStart => exact ⟨(([] : List Int)), (0), (by first | rfl | (simp; done) | (simp [*]; done)), H', ⟨Nat.le_refl _⟩, ⟨by first | exact Kd.R_nil _ _ _ _ _ | exact Kd.N_nil _ _ _ _ _ | exact Kd.V_nil _ _ _ _ _ | exact Kd.Q_nil _ _ _ _ _ | exact Kd.S_nil _ _ _ _ _⟩, ⟨by repeat (first | (with_reducible first | exact HB.out | apply below_alloc | apply pw_below_drewN | apply below_drew1) | exact HB.out)⟩⟩
                case round =>
                  clear H'
                  try clear c1
                  try clear p2
                  try clear q2
                  try clear hx2
                  try clear c4
                  try clear c4b0
                  try clear c5
                  try clear c6
                  try clear c6b0
                  try clear p6
                  try clear c7
                  try clear c7b0
                  try clear c8
                  try clear c8b0
                  try clear c9
                  try clear c9b0
                  try clear c10
                  try clear c10b0
                  try clear c10b1
                  try clear c12
                  try clear c12b0
                  try clear c13
                  try clear c13b0
                  try clear c13b1
                  try clear hx293_0
                  try clear p2
                  try clear p293
                  try clear q293
                  obtain ⟨x8_3, x9_3, rfl, HA, HK3, HO_8, HB⟩ := hrel
                  cases gk with
                  | zero => exact absurd HA.out (by simp [trustquorumref01_Meeting.l1])
                  | succ k3 =>
                    have H := HA.out
                    clear HA
                    simp only [trustquorumref01_Meeting.l1] at H
                    by_cases c14 : 0 ≤ a1
                    · rw [if_pos c14] at H
                      have c14b0 := eq_true c14
                      have c14b1 : decide (0 ≤ a1) = true := decide_eq_true c14
                      clear c14
                      obtain ⟨ji15, hji15⟩ : ∃ j_ : Int, (shl .i64 1 a1) = j_ := ⟨_, rfl⟩
                      replace H : (if x9_3 < (ji15) then (trustquorumref01_Meeting.l2 k3 l0 a1 x8_3 x9_3 true l0 (l0.length : Int) 0) else ((trustquorumref01_Least.f x8_3).bind fun t294 => (some (t294, 0)))) = some (r1, r2) := by first | (rw [hji15] at H; exact H) | (simp only [hji15] at H ⊢; exact H)
                      have hji15_ : (IntKind.i64.wrap (1 * 2 ^ min a1.toNat 64)) = ji15 := hji15
                      have hji15z : a1 ≤ 64 → (IntKind.i64.wrap (1 * 2 ^ a1.toNat)) = ji15 := shl_small hji15
                      have hji15u : (IntKind.i64.wrap (2 ^ min a1.toNat 64)) = ji15 := by have h_ := hji15_; rw [Int.one_mul] at h_; exact h_
                      have hji15v : a1 ≤ 64 → (IntKind.i64.wrap (2 ^ a1.toNat)) = ji15 := fun hle_ => by have h_ := hji15z hle_; rw [Int.one_mul] at h_; exact h_
                      have hji15y : (wrap64 (1 * 2 ^ min a1.toNat 64)) = ji15 := (i64_w _).symm.trans hji15_
                      have hji15x : a1 ≤ 64 → (wrap64 (1 * 2 ^ a1.toNat)) = ji15 := fun h_ => (i64_w _).symm.trans (hji15z h_)
                      by_cases c16 : x9_3 < (ji15)
                      · rw [if_pos c16] at H
                        have c16b0 : decide (x9_3 < (ji15)) = true := decide_eq_true c16
                        clear c16
                        have H' := Aside0.mk H
                        clear H
                        go_wp2
                        go_loopg [10, 45] k3 (fun kq v10 v45 w' => ∃ (x10_4 : Bool) (x45_4 : Int), v10 = .bool x10_4 ∧ v45 = .int .i64 x45_4 ∧ Aside0 (trustquorumref01_Meeting.l2 kq l0 a1 x8_3 x9_3 x10_4 l0 (l0.length : Int) x45_4 = some (r1, r2)) ∧ Aside0 (kq ≤ k3) ∧ Aside0 (Kd.R (Kd.int .i64) 3 w' w.heap.size (fun _ => True) u8 x8_3) ∧ Aside0 (Below w.heap.size w w'))
                        case atStart => exact ⟨(true), (0), (by first | rfl | (simp; done) | (simp [*]; done)), (by first | rfl | (simp; done) | (simp [*]; done)), H', ⟨Nat.le_refl _⟩, ⟨by (with_reducible repeat (first | apply Kd.R_alloc | apply Kd.R_drewN | apply Kd.R_drew)); exact HO_8.out⟩, ⟨by repeat (first | (with_reducible first | exact HB.out | apply below_alloc | apply pw_below_drewN | apply below_drew1) | exact HB.out)⟩⟩
                        case round =>
                          clear H'
                          try clear c1
                          try clear p2
                          try clear q2
                          try clear hx2
                          try clear c4
                          try clear c4b0
                          try clear c5
                          try clear c6
                          try clear c6b0
                          try clear p6
                          try clear c7
                          try clear c7b0
                          try clear c8
                          try clear c8b0
                          try clear c9
                          try clear c9b0
                          try clear c10
                          try clear c10b0
                          try clear c10b1
                          try clear c12
                          try clear c12b0
                          try clear c13
                          try clear c13b0
                          try clear c13b1
                          try clear c14
                          try clear c14b0
                          try clear c14b1
                          try clear c15
                          try clear c16
                          try clear c16b0
                          try clear hx293_0
                          try clear p2
                          try clear p293
                          try clear p6
                          try clear q2
                          try clear q293
                          obtain ⟨x10_4, x45_4, rfl, rfl, HA, HK4, HO_8, HB⟩ := hrel
                          cases gk with
                          | zero => exact absurd HA.out (by simp [trustquorumref01_Meeting.l2])
                          | succ k4 =>
                            have H := HA.out
                            clear HA
                            simp only [trustquorumref01_Meeting.l2] at H
                            by_cases c17 : x45_4 < (l0.length : Int)
                            · rw [if_pos c17] at H
                              have c17b0 : decide (x45_4 < (l0.length : Int)) = true := decide_eq_true c17
                              clear c17
                              by_cases c18 : 0 ≤ x45_4
                              · rw [if_pos c18] at H
                                have c18b0 : decide (0 ≤ x45_4) = true := decide_eq_true c18
                                clear c18
                                by_cases c19 : x45_4 < (l0.length : Int)
                                · rw [if_pos c19] at H
                                  have c19b0 : decide (x45_4 < (l0.length : Int)) = true := decide_eq_true c19
                                  clear c19
                                  by_cases c20 : x10_4 = true
                                  · subst c20
                                    have H1 : (trustquorumref01_Meeting.l2 k4 l0 a1 x8_3 x9_3 ((Go.bits .and .i64 (rd l0 x45_4) x9_3) != 0) l0 (l0.length : Int) (wrap64 (x45_4 + 1))) = some (r1, r2) := by rw [if_pos rfl] at H; exact H
                                    clear H
                                    have H := H1
                                    clear H1
                                    have H' := Aside0.mk H
                                    clear H
                                    have p297 : 0 ≤ (x45_4 : Int) := of_decide_eq_true (by first | (with_reducible assumption) | assumption)
                                    have q297 : x45_4 < (l0.length : Int) := of_decide_eq_true (by first | (with_reducible assumption) | assumption)
                                    obtain ⟨ad297, e297, hx297_0⟩ := Kd.at_int HR0.out x45_4 p297 q297
                                    cases e297
                                    replace hx297_0 := (HB.out.cell (World.block_lt_of_cell? w _ hx297_0)).trans hx297_0
                                    replace p297 := eq_true p297
                                    replace q297 := eq_true q297
                                    go_wp2
                                    go_roundg k4
                                    case measure => have := HJ2.out; have := HK2.out; have := HK3.out; have := HK4.out; omega
                                    case rel => exact ⟨(((Go.bits .and .i64 (rd l0 x45_4) x9_3) != 0)), (wrap64 (x45_4 + 1)), (by first | rfl | (simp; done) | (simp [*]; done)), (by first | rfl | (simp; done) | (simp [*]; done)), H', ⟨by have := HJ2.out; have := HK2.out; have := HK3.out; have := HK4.out; omega⟩, ⟨by (with_reducible repeat (first | apply Kd.R_alloc | apply Kd.R_drewN | apply Kd.R_drew)); exact HO_8.out⟩, ⟨by repeat (first | (with_reducible first | exact HB.out | apply below_alloc | apply pw_below_drewN | apply below_drew1) | exact HB.out)⟩⟩
                                  · replace c20 := Bool.eq_false_iff.mpr c20
                                    subst c20
                                    have H1 : (trustquorumref01_Meeting.l2 k4 l0 a1 x8_3 x9_3 false l0 (l0.length : Int) (wrap64 (x45_4 + 1))) = some (r1, r2) := by rw [if_neg (show ¬ (false = true) by decide)] at H; exact H
                                    clear H
                                    have H := H1
                                    clear H1
                                    have H' := Aside0.mk H
                                    clear H
                                    have p297 : 0 ≤ (x45_4 : Int) := of_decide_eq_true (by first | (with_reducible assumption) | assumption)
                                    have q297 : x45_4 < (l0.length : Int) := of_decide_eq_true (by first | (with_reducible assumption) | assumption)
                                    obtain ⟨ad297, e297, hx297_0⟩ := Kd.at_int HR0.out x45_4 p297 q297
                                    cases e297
                                    replace hx297_0 := (HB.out.cell (World.block_lt_of_cell? w _ hx297_0)).trans hx297_0
                                    replace p297 := eq_true p297
                                    replace q297 := eq_true q297
                                    go_wp2
                                    go_roundg k4
                                    case measure => have := HJ2.out; have := HK2.out; have := HK3.out; have := HK4.out; omega
                                    case rel => exact ⟨(false), (wrap64 (x45_4 + 1)), (by first | rfl | (simp; done) | (simp [*]; done)), (by first | rfl | (simp; done) | (simp [*]; done)), H', ⟨by have := HJ2.out; have := HK2.out; have := HK3.out; have := HK4.out; omega⟩, ⟨by (with_reducible repeat (first | apply Kd.R_alloc | apply Kd.R_drewN | apply Kd.R_drew)); exact HO_8.out⟩, ⟨by repeat (first | (with_reducible first | exact HB.out | apply below_alloc | apply pw_below_drewN | apply below_drew1) | exact HB.out)⟩⟩
                                · rw [if_neg c19] at H
                                  exact absurd H (by simp)
                              · rw [if_neg c18] at H
                                exact absurd H (by simp)
                            · rw [if_neg c17] at H
                              have c17b0 : decide (x45_4 < (l0.length : Int)) = false := decide_eq_false c17
                              clear c17
                              by_cases c21 : x10_4 = true
                              · subst c21
                                have H1 : (if x8_3.length < 17592186044416 then (trustquorumref01_Meeting.l1 k4 l0 a1 (x8_3 ++ [x9_3]) (wrap64 (x9_3 + 1))) else (none)) = some (r1, r2) := by rw [if_pos rfl] at H; exact H
                                clear H
                                have H := H1
                                clear H1
                                by_cases c22 : x8_3.length < 17592186044416
                                · rw [if_pos c22] at H
                                  have LMc22 := Aside0.mk c22
                                  clear c22
                                  obtain ⟨y298, hy298⟩ : ∃ y_ : List Int, y_ = (x8_3 ++ [x9_3]) := ⟨_, rfl⟩
                                  replace H : (trustquorumref01_Meeting.l1 k4 l0 a1 y298 (wrap64 (x9_3 + 1))) = some (r1, r2) := by first | (rw [hy298]; with_reducible exact H) | (have H2_ := (Option.bind_some _ _).symm.trans H; rw [hy298]; with_reducible exact H2_) | (have H2_ := (Option.bind_some _ _).symm.trans H; with_reducible exact H2_) | with_reducible exact H | (rw [hy298]; exact H) | exact H
                                  have Ny298 := Aside0.mk hy298
                                  clear hy298
                                  have H' := Aside0.mk H
                                  clear H
                                  go_wp2_with (first | ((with_reducible refine gate_builtin (b := .append) (xs := #[.tmp 58, .tmp 60]) rfl ?_); at_builtin; refine Kd.R_append (Kd.int .i64) (w0 := w) w.heap.size rfl (.tmp 58) (.tmp 60) 22 3 (.int .i64 0) 8 rfl Try.underlying22 info3 rfl (by decide) (by omega) u8 x8_3 x9_3 [.int .i64 x9_3] (fun _ => True) (fun _ => False) rfl rfl ?aP (fun _ hk => hk.elim) ?aF ?aO ?aB ?aS ?aL ?_; (case aP => exact rfl); (case aB => exact (by repeat (first | (with_reducible first | exact HB.out | apply below_alloc | apply pw_below_drewN | apply below_drew1) | exact HB.out))); (case aF => exact (fun _ _ => trivial)); (case aO => exact (by (with_reducible repeat (first | apply Kd.R_alloc | apply Kd.R_drewN | apply Kd.R_drew)); exact HO_8.out)); (case aS => exact (below_size (by repeat (first | (with_reducible first | exact HB.out | apply below_alloc | apply pw_below_drewN | apply below_drew1) | exact HB.out)))); (case aL => have := LMc22.out; omega); intro v299 w23 ho hb hg hat; rw [← Ny298.out] at ho; have n0_ := Aside0.mk (hb); have n1_ := Aside0.mk (ho); clear HB; clear HO_8; have HB := n0_; have HO300 := n1_; clear n0_ n1_; clear ho hb hg hat))
                                  go_roundg k4
                                  case measure => have := HJ2.out; have := HK2.out; have := HK3.out; have := HK4.out; omega
                                  case rel => exact ⟨(y298), (wrap64 (x9_3 + 1)), (by first | rfl | (simp; done) | (simp [*]; done)), H', ⟨by have := HJ2.out; have := HK2.out; have := HK3.out; have := HK4.out; omega⟩, ⟨by (with_reducible repeat (first | apply Kd.R_alloc | apply Kd.R_drewN | apply Kd.R_drew)); exact HO300.out⟩, ⟨by repeat (first | (with_reducible first | exact HB.out | apply below_alloc | apply pw_below_drewN | apply below_drew1) | exact HB.out)⟩⟩
                                · rw [if_neg c22] at H
                                  exact absurd H (by simp)
                              · replace c21 := Bool.eq_false_iff.mpr c21
                                subst c21
                                have H1 : (trustquorumref01_Meeting.l1 k4 l0 a1 x8_3 (wrap64 (x9_3 + 1))) = some (r1, r2) := by rw [if_neg (show ¬ (false = true) by decide)] at H; exact H
                                clear H
                                have H := H1
                                clear H1
                                have H' := Aside0.mk H
                                clear H
                                go_wp2
                                go_roundg k4
                                case measure => have := HJ2.out; have := HK2.out; have := HK3.out; have := HK4.out; omega
                                case rel => exact ⟨(x8_3), (wrap64 (x9_3 + 1)), (by first | rfl | (simp; done) | (simp [*]; done)), H', ⟨by have := HJ2.out; have := HK2.out; have := HK3.out; have := HK4.out; omega⟩, ⟨by (with_reducible repeat (first | apply Kd.R_alloc | apply Kd.R_drewN | apply Kd.R_drew)); exact HO_8.out⟩, ⟨by repeat (first | (with_reducible first | exact HB.out | apply below_alloc | apply pw_below_drewN | apply below_drew1) | exact HB.out)⟩⟩
                      · rw [if_neg c16] at H
                        have c16b0 : decide (x9_3 < (ji15)) = false := decide_eq_false c16
                        clear c16
                        replace H := Option.bind_eq_some_iff.mp H
                        obtain ⟨t294, A240, H⟩ := H
                        replace H : (some (t294, 0)) = some (r1, r2) := H
                        have A24 := Aside0.mk A240
                        clear A240
                        simp only [Option.some.injEq, Prod.mk.injEq] at H
                        obtain ⟨rfl, rfl⟩ := H
                        obtain ⟨Ao25, co25, eo25⟩ := Kd.R_slice HO_8.out
                        subst eo25
                        go_wp2_with (first | ((with_reducible refine gate_callee (f := 30) rfl ?_); refine goesL_ (some 63) rfl rfl Try.func30 (by kernel_rfl) rfl #[.slice Ao25 x8_3.length co25] rfl (by (try simp only [List.map_toArray, List.map_cons, List.map_nil]); first | done | rfl | (simp only [List.length_drop, List.length_take]; rfl)) ?_; (with_reducible refine (trustquorumref01_Least.calls _ _ x8_3 t294 _ ?side1 ?side2 A24.out).mono ?_); (case side1 => repeat (first | exact (Kd.R_reads' HO_8.out).2.2 | (with_reducible refine Kd.C_alloc ?_ _) | (with_reducible refine Kd.C_drewN ?_ _) | (with_reducible refine Kd.C_drew ?_))); (case side2 => exact (Kd.R_reads' HO_8.out).2.1); rintro e w26 ⟨v295, rfl, ho0, hb⟩; refine ⟨_, rfl, ?_⟩; have n0_ := Aside0.mk (Kd.R_elder' (by (with_reducible repeat (first | apply Kd.R_alloc | apply Kd.R_drewN | apply Kd.R_drew)); exact HO_8.out) (Kd.R_base ho0) hb); have n1_ := Aside0.mk (Kd.R_lower (Kd.R_new' ho0 (Kd.R_lt (by (with_reducible repeat (first | apply Kd.R_alloc | apply Kd.R_drewN | apply Kd.R_drew)); exact HO_8.out))) (below_size (by repeat (first | (with_reducible first | exact HB.out | apply below_alloc | apply pw_below_drewN | apply below_drew1) | exact HB.out)))); have n2_ := Aside0.mk (below_step (by repeat (first | (with_reducible first | exact HB.out | apply below_alloc | apply pw_below_drewN | apply below_drew1) | exact HB.out)) hb); clear HO_8; clear HB; have HO_8 := n0_; have HO296 := n1_; have HB := n2_; clear n0_ n1_ n2_; (try clear hb); (try clear hb2); (try clear hk); (try clear hi); (try clear ho0)))
                        go_ret2
                        exact ⟨_, by first | rfl | (simp [errW_none, errW_some] <;> rfl) | (simp only [← hji15]; first | rfl | (simp [errW_none, errW_some] <;> rfl)) | (simp [*, errW_none, errW_some] <;> rfl), by (with_reducible repeat (first | apply Kd.R_alloc | apply Kd.R_drewN | apply Kd.R_drew)); exact Kd.R_mono HO296.out (fun _ hk => trivial), by repeat (first | (with_reducible first | exact HB.out | apply below_alloc | apply pw_below_drewN | apply below_drew1) | exact HB.out)⟩
                    · rw [if_neg c14] at H
                      exact absurd H (by simp)
def trustquorumlaw05_SlicesDual.f (k : Nat) (l0 : List Int) : Option (Bool) := (trustquorummake_New.f l0).bind fun bt301 => ((trustquorummake_Tape_Range.f bt301.1 bt301.2 1 8).bind fun bt304 => ((trustquorummake_Trust.f k bt301.1 bt304.2 bt304.1 3).bind fun bt306 => ((slices_Slices.f k bt306.1 bt306.2.1 bt306.2.2.1).bind fun bt315 => ((slices_Blocking.f k bt306.1 bt306.2.1 bt306.2.2.1).bind fun bt319 => ((trustquorumref01_Meeting.f k bt315.1 bt304.1).bind fun bt323 => ((trustquorumref01_Meeting.f k bt319.1 bt304.1).bind fun bt327 => (if bt315.2 = 0 then (if bt319.2 = 0 then (if bt323.2 = 0 then (if bt327.2 = 0 then ((trustquorummake_Ints.f k bt319.1 bt323.1).bind fun t331 => (if t331 = true then ((trustquorummake_Ints.f k bt315.1 bt327.1).bind fun t332 => (if t332 = true then ((trustquorumlaw05_awake.f).bind fun t333 => (some t333)) else (some false))) else (some false))) else (some false)) else (some false)) else (some false)) else (some false))))))))
set_option maxHeartbeats 8000000 in
set_option maxRecDepth 100000 in
theorem trustquorumlaw05_SlicesDual.calls (k : Nat) (A0 : Option Addr) (c0 : Nat) (l0 : List Int) (r : Bool) (w : World) (hr0 : Kd.C (Kd.int .i64) w A0 l0.length l0) (hc0 : l0.length ≤ c0) (h : trustquorumlaw05_SlicesDual.f k l0 = some r) :
    Calls Try.prog 4 #[.slice A0 l0.length c0] w fun e w' => e = .returned (.bool r) ∧ Below w.heap.size w w' := by
  have hu27 := Try.underlying27
  have HR0 := Aside0.mk hr0
  have HC0 := Aside0.mk hc0
  clear hr0 hc0
  have HB := Aside0.mk (Below.refl w.heap.size w)
  have H : ((trustquorummake_New.f l0).bind fun bt301 => ((trustquorummake_Tape_Range.f bt301.1 bt301.2 1 8).bind fun bt304 => ((trustquorummake_Trust.f k bt301.1 bt304.2 bt304.1 3).bind fun bt306 => ((slices_Slices.f k bt306.1 bt306.2.1 bt306.2.2.1).bind fun bt315 => ((slices_Blocking.f k bt306.1 bt306.2.1 bt306.2.2.1).bind fun bt319 => ((trustquorumref01_Meeting.f k bt315.1 bt304.1).bind fun bt323 => ((trustquorumref01_Meeting.f k bt319.1 bt304.1).bind fun bt327 => (if bt315.2 = 0 then (if bt319.2 = 0 then (if bt323.2 = 0 then (if bt327.2 = 0 then ((trustquorummake_Ints.f k bt319.1 bt323.1).bind fun t331 => (if t331 = true then ((trustquorummake_Ints.f k bt315.1 bt327.1).bind fun t332 => (if t332 = true then ((trustquorumlaw05_awake.f).bind fun t333 => (some t333)) else (some false))) else (some false))) else (some false)) else (some false)) else (some false)) else (some false))))))))) = some r := h
  clear h
  replace H := Option.bind_eq_some_iff.mp H
  obtain ⟨⟨t301, t302⟩, A20, H⟩ := H
  replace H : ((trustquorummake_Tape_Range.f t301 t302 1 8).bind fun bt304 => ((trustquorummake_Trust.f k t301 bt304.2 bt304.1 3).bind fun bt306 => ((slices_Slices.f k bt306.1 bt306.2.1 bt306.2.2.1).bind fun bt315 => ((slices_Blocking.f k bt306.1 bt306.2.1 bt306.2.2.1).bind fun bt319 => ((trustquorumref01_Meeting.f k bt315.1 bt304.1).bind fun bt323 => ((trustquorumref01_Meeting.f k bt319.1 bt304.1).bind fun bt327 => (if bt315.2 = 0 then (if bt319.2 = 0 then (if bt323.2 = 0 then (if bt327.2 = 0 then ((trustquorummake_Ints.f k bt319.1 bt323.1).bind fun t331 => (if t331 = true then ((trustquorummake_Ints.f k bt315.1 bt327.1).bind fun t332 => (if t332 = true then ((trustquorumlaw05_awake.f).bind fun t333 => (some t333)) else (some false))) else (some false))) else (some false)) else (some false)) else (some false)) else (some false)))))))) = some r := H
  have A2 := Aside0.mk A20
  clear A20
  replace H := Option.bind_eq_some_iff.mp H
  obtain ⟨⟨t304, t305⟩, A30, H⟩ := H
  replace H : ((trustquorummake_Trust.f k t301 t305 t304 3).bind fun bt306 => ((slices_Slices.f k bt306.1 bt306.2.1 bt306.2.2.1).bind fun bt315 => ((slices_Blocking.f k bt306.1 bt306.2.1 bt306.2.2.1).bind fun bt319 => ((trustquorumref01_Meeting.f k bt315.1 t304).bind fun bt323 => ((trustquorumref01_Meeting.f k bt319.1 t304).bind fun bt327 => (if bt315.2 = 0 then (if bt319.2 = 0 then (if bt323.2 = 0 then (if bt327.2 = 0 then ((trustquorummake_Ints.f k bt319.1 bt323.1).bind fun t331 => (if t331 = true then ((trustquorummake_Ints.f k bt315.1 bt327.1).bind fun t332 => (if t332 = true then ((trustquorumlaw05_awake.f).bind fun t333 => (some t333)) else (some false))) else (some false))) else (some false)) else (some false)) else (some false)) else (some false))))))) = some r := H
  have A3 := Aside0.mk A30
  clear A30
  replace H := Option.bind_eq_some_iff.mp H
  obtain ⟨⟨t306, t307, t310, t313⟩, A40, H⟩ := H
  replace H : ((slices_Slices.f k t306 t307 t310).bind fun bt315 => ((slices_Blocking.f k t306 t307 t310).bind fun bt319 => ((trustquorumref01_Meeting.f k bt315.1 t304).bind fun bt323 => ((trustquorumref01_Meeting.f k bt319.1 t304).bind fun bt327 => (if bt315.2 = 0 then (if bt319.2 = 0 then (if bt323.2 = 0 then (if bt327.2 = 0 then ((trustquorummake_Ints.f k bt319.1 bt323.1).bind fun t331 => (if t331 = true then ((trustquorummake_Ints.f k bt315.1 bt327.1).bind fun t332 => (if t332 = true then ((trustquorumlaw05_awake.f).bind fun t333 => (some t333)) else (some false))) else (some false))) else (some false)) else (some false)) else (some false)) else (some false)))))) = some r := H
  have A4 := Aside0.mk A40
  clear A40
  replace H := Option.bind_eq_some_iff.mp H
  obtain ⟨⟨t315, t318⟩, A50, H⟩ := H
  replace H : ((slices_Blocking.f k t306 t307 t310).bind fun bt319 => ((trustquorumref01_Meeting.f k t315 t304).bind fun bt323 => ((trustquorumref01_Meeting.f k bt319.1 t304).bind fun bt327 => (if t318 = 0 then (if bt319.2 = 0 then (if bt323.2 = 0 then (if bt327.2 = 0 then ((trustquorummake_Ints.f k bt319.1 bt323.1).bind fun t331 => (if t331 = true then ((trustquorummake_Ints.f k t315 bt327.1).bind fun t332 => (if t332 = true then ((trustquorumlaw05_awake.f).bind fun t333 => (some t333)) else (some false))) else (some false))) else (some false)) else (some false)) else (some false)) else (some false))))) = some r := H
  have A5 := Aside0.mk A50
  clear A50
  replace H := Option.bind_eq_some_iff.mp H
  obtain ⟨⟨t319, t322⟩, A60, H⟩ := H
  replace H : ((trustquorumref01_Meeting.f k t315 t304).bind fun bt323 => ((trustquorumref01_Meeting.f k t319 t304).bind fun bt327 => (if t318 = 0 then (if t322 = 0 then (if bt323.2 = 0 then (if bt327.2 = 0 then ((trustquorummake_Ints.f k t319 bt323.1).bind fun t331 => (if t331 = true then ((trustquorummake_Ints.f k t315 bt327.1).bind fun t332 => (if t332 = true then ((trustquorumlaw05_awake.f).bind fun t333 => (some t333)) else (some false))) else (some false))) else (some false)) else (some false)) else (some false)) else (some false)))) = some r := H
  have A6 := Aside0.mk A60
  clear A60
  replace H := Option.bind_eq_some_iff.mp H
  obtain ⟨⟨t323, t324⟩, A70, H⟩ := H
  replace H : ((trustquorumref01_Meeting.f k t319 t304).bind fun bt327 => (if t318 = 0 then (if t322 = 0 then (if t324 = 0 then (if bt327.2 = 0 then ((trustquorummake_Ints.f k t319 t323).bind fun t331 => (if t331 = true then ((trustquorummake_Ints.f k t315 bt327.1).bind fun t332 => (if t332 = true then ((trustquorumlaw05_awake.f).bind fun t333 => (some t333)) else (some false))) else (some false))) else (some false)) else (some false)) else (some false)) else (some false))) = some r := H
  have A7 := Aside0.mk A70
  clear A70
  replace H := Option.bind_eq_some_iff.mp H
  obtain ⟨⟨t327, t328⟩, A80, H⟩ := H
  replace H : (if t318 = 0 then (if t322 = 0 then (if t324 = 0 then (if t328 = 0 then ((trustquorummake_Ints.f k t319 t323).bind fun t331 => (if t331 = true then ((trustquorummake_Ints.f k t315 t327).bind fun t332 => (if t332 = true then ((trustquorumlaw05_awake.f).bind fun t333 => (some t333)) else (some false))) else (some false))) else (some false)) else (some false)) else (some false)) else (some false)) = some r := H
  have A8 := Aside0.mk A80
  clear A80
  by_cases c9 : t318 = 0
  · rw [if_pos c9] at H
    have c9b0 : (t318 == 0) = true := beq_iff_eq.mpr c9
    have c9b1 : (t318 != 0) = false := bne_eq_false_iff_eq.mpr c9
    clear c9
    by_cases c10 : t322 = 0
    · rw [if_pos c10] at H
      have c10b0 : (t322 == 0) = true := beq_iff_eq.mpr c10
      have c10b1 : (t322 != 0) = false := bne_eq_false_iff_eq.mpr c10
      clear c10
      by_cases c11 : t324 = 0
      · rw [if_pos c11] at H
        have c11b0 : (t324 == 0) = true := beq_iff_eq.mpr c11
        have c11b1 : (t324 != 0) = false := bne_eq_false_iff_eq.mpr c11
        clear c11
        by_cases c12 : t328 = 0
        · rw [if_pos c12] at H
          have c12b0 : (t328 == 0) = true := beq_iff_eq.mpr c12
          have c12b1 : (t328 != 0) = false := bne_eq_false_iff_eq.mpr c12
          clear c12
          replace H := Option.bind_eq_some_iff.mp H
          obtain ⟨t331, A130, H⟩ := H
          replace H : (if t331 = true then ((trustquorummake_Ints.f k t315 t327).bind fun t332 => (if t332 = true then ((trustquorumlaw05_awake.f).bind fun t333 => (some t333)) else (some false))) else (some false)) = some r := H
          have A13 := Aside0.mk A130
          clear A130
          by_cases c14 : t331 = true
          · subst c14
            have H1 : ((trustquorummake_Ints.f k t315 t327).bind fun t332 => (if t332 = true then ((trustquorumlaw05_awake.f).bind fun t333 => (some t333)) else (some false))) = some r := by rw [if_pos rfl] at H; exact H
            clear H
            have H := H1
            clear H1
            replace H := Option.bind_eq_some_iff.mp H
            obtain ⟨t332, A150, H⟩ := H
            replace H : (if t332 = true then ((trustquorumlaw05_awake.f).bind fun t333 => (some t333)) else (some false)) = some r := H
            have A15 := Aside0.mk A150
            clear A150
            by_cases c16 : t332 = true
            · subst c16
              have H1 : ((trustquorumlaw05_awake.f).bind fun t333 => (some t333)) = some r := by rw [if_pos rfl] at H; exact H
              clear H
              have H := H1
              clear H1
              replace H := Option.bind_eq_some_iff.mp H
              obtain ⟨t333, A170, H⟩ := H
              replace H : (some t333) = some r := H
              have A17 := Aside0.mk A170
              clear A170
              obtain rfl := Option.some.inj H
              go_enter Try.func4, Try.ntmps4
              go_wp2_with (first | ((with_reducible refine gate_callee (f := 6) rfl ?_); refine goesL_ (some 15) rfl rfl Try.func6 (by kernel_rfl) rfl #[.slice A0 l0.length c0] rfl (by (try simp only [List.map_toArray, List.map_cons, List.map_nil]); first | done | rfl | (simp only [List.length_drop, List.length_take]; rfl)) ?_; (with_reducible refine (trustquorummake_New.calls _ _ l0 t301 t302 w _ ?side1 ?side2 ?side3 A2.out).mono ?_); (case side1 => repeat (first | (with_reducible first | exact HB.out | apply below_alloc | apply pw_below_drewN | apply below_drew1) | exact HB.out)); (case side2 => exact HR0.out); (case side3 => exact HC0.out); rintro e w18 ⟨g303, rfl, hi, hb, hb2⟩; refine ⟨_, rfl, ?_⟩; have n0_ := Aside0.mk (hb); have n1_ := Aside0.mk (hi); clear HB; have HB := n0_; have HI303 := n1_; clear n0_ n1_; (try clear hb); (try clear hb2); (try clear hk); (try clear hi)) | ((with_reducible refine gate_callee (f := 8) rfl ?_); refine goesL_ (some 17) rfl rfl Try.func8 (by kernel_rfl) rfl #[.pointer (some ⟨g303, 0, none⟩), .int .i64 1, .int .i64 8] rfl (by (try simp only [List.map_toArray, List.map_cons, List.map_nil]); first | done | rfl | (simp only [List.length_drop, List.length_take]; rfl)) ?_; (with_reducible refine (trustquorummake_Tape_Range.calls g303 t301 t302 1 8 t304 t305 w _ ?side1 ?side2 A3.out).mono ?_); (case side1 => repeat (first | (with_reducible first | exact HI303.out | apply IsS44.alloc | apply IsS44.drewN | apply IsS44.drew | apply IsS44.set_1) | exact HI303.out)); (case side2 => repeat (first | (with_reducible first | exact HB.out | apply below_alloc | apply pw_below_drewN | apply below_drew1 | refine below_set ?_ (IsS44.ge HI303.out)) | exact HB.out)); rintro e w19 ⟨rfl, hi, hb, hk⟩; refine ⟨_, rfl, ?_⟩; have n0_ := Aside0.mk (hb); have n1_ := Aside0.mk (hi); clear HB; clear HI303; have HB := n0_; have HI303 := n1_; clear n0_ n1_; (try clear hb); (try clear hb2); (try clear hk); (try clear hi)) | ((with_reducible refine gate_callee (f := 7) rfl ?_); refine goesL_ (some 20) rfl rfl Try.func7 (by kernel_rfl) rfl #[.pointer (some ⟨g303, 0, none⟩), .int .i64 t304, .int .i64 3] rfl (by (try simp only [List.map_toArray, List.map_cons, List.map_nil]); first | done | rfl | (simp only [List.length_drop, List.length_take]; rfl)) ?_; (with_reducible refine (trustquorummake_Trust.calls k g303 t301 t305 t304 3 t306 t307 t310 t313 w _ ?side1 ?side2 A4.out).mono ?_); (case side1 => repeat (first | (with_reducible first | exact HI303.out | apply IsS44.alloc | apply IsS44.drewN | apply IsS44.drew | apply IsS44.set_1) | exact HI303.out)); (case side2 => repeat (first | (with_reducible first | exact HB.out | apply below_alloc | apply pw_below_drewN | apply below_drew1 | refine below_set ?_ (IsS44.ge HI303.out)) | exact HB.out)); rintro e w20 ⟨v308, v311, rfl, ho0, ho1, hi, hb, hk⟩; refine ⟨_, rfl, ?_⟩; have n0_ := Aside0.mk (Kd.R_lower ho0 (below_size (by repeat (first | (with_reducible first | exact HB.out | apply below_alloc | apply pw_below_drewN | apply below_drew1 | refine below_set ?_ (IsS44.ge HI303.out)) | exact HB.out)))); have n1_ := Aside0.mk (Kd.R_lower ho1 (below_size (by repeat (first | (with_reducible first | exact HB.out | apply below_alloc | apply pw_below_drewN | apply below_drew1 | refine below_set ?_ (IsS44.ge HI303.out)) | exact HB.out)))); have n2_ := Aside0.mk (hb); have n3_ := Aside0.mk (hi); clear HB; clear HI303; have HO309 := n0_; have HO312 := n1_; have HB := n2_; have HI303 := n3_; clear n0_ n1_ n2_ n3_; (try clear hb); (try clear hb2); (try clear hk); (try clear hi); (try clear ho0); (try clear ho1)) | ((with_reducible refine gate_dst (N := 5) rfl ?_); refine box_event ?hg (N := 5) ?hd (cs := #[.int .i64 0, .slice none 0 0, .slice none 0 0]) (t := 27) ?hr ?_; (case hd => rfl); (case hg => rfl); (case hr => first | (go_simp; done) | (go_simp; rfl)); intro gb314 hg w21 hbox hb; have n0_ := Aside0.mk (Kd.R_below (by (with_reducible repeat (first | apply Kd.R_alloc | apply Kd.R_drewN | apply Kd.R_drew)); exact HO309.out) hb); have n1_ := Aside0.mk (Kd.R_below (Kd.R_elderB (by (with_reducible repeat (first | apply Kd.R_alloc | apply Kd.R_drewN | apply Kd.R_drew)); exact HO312.out) gb314 (Nat.le_of_eq hg.symm)) hb); have n2_ := Aside0.mk (IsS44.below (by repeat (first | (with_reducible first | exact HI303.out | apply IsS44.alloc | apply IsS44.drewN | apply IsS44.drew | apply IsS44.set_1) | exact HI303.out)) hb); have n3_ := Aside0.mk (below_step (by repeat (first | (with_reducible first | exact HB.out | apply below_alloc | apply pw_below_drewN | apply below_drew1 | refine below_set ?_ (IsS44.ge HI303.out)) | exact HB.out)) hb); have n4_ := Aside0.mk (hbox); have n5_ := Aside0.mk ((by rw [hg]; exact (below_size (by repeat (first | (with_reducible first | exact HB.out | apply below_alloc | apply pw_below_drewN | apply below_drew1 | refine below_set ?_ (IsS44.ge HI303.out)) | exact HB.out))) : w.heap.size ≤ gb314)); have n6_ := Aside0.mk ((by rw [hg]; exact (below_size (by repeat (first | (with_reducible first | exact HB.out | apply below_alloc | apply pw_below_drewN | apply below_drew1 | refine below_set ?_ (IsS44.ge HI303.out)) | exact HB.out))) : w.heap.size ≤ gb314)); have n7_ := Aside0.mk ((by rw [hg]; exact Nat.ne_of_lt (IsS44.lt (show IsS44 w _ g303 t301 t313 from by repeat (first | (with_reducible first | exact HI303.out | apply IsS44.alloc | apply IsS44.drewN | apply IsS44.drew | apply IsS44.set_1) | exact HI303.out))) : g303 ≠ gb314)); have n8_ := Aside0.mk ((by rw [hg]; exact Nat.ne_of_gt (IsS44.lt (show IsS44 w _ g303 t301 t313 from by repeat (first | (with_reducible first | exact HI303.out | apply IsS44.alloc | apply IsS44.drewN | apply IsS44.drew | apply IsS44.set_1) | exact HI303.out))) : gb314 ≠ g303)); clear HO309; clear HO312; clear HI303; clear HB; have HO309 := n0_; have HO312 := n1_; have HI303 := n2_; have HB := n3_; have BK314 := n4_; have GW314 := n5_; have GE314 := n6_; have NB303_314 := n7_; have NB314_303 := n8_; clear n0_ n1_ n2_ n3_ n4_ n5_ n6_ n7_ n8_; clear hb hbox hg; have hnb22 := NB314_303.out; have hnc22 := NB303_314.out; have hcz23_0 : w21.cell? ⟨gb314, 0, none⟩ = some (.int .i64 0) := (blk_cell BK314.out 0).trans rfl; have hcz23_1 : w21.cell? ⟨gb314, 1, none⟩ = some (.slice none 0 0) := (blk_cell BK314.out 1).trans rfl; have hcz23_2 : w21.cell? ⟨gb314, 2, none⟩ = some (.slice none 0 0) := (blk_cell BK314.out 2).trans rfl; have hfz23_0 := blk_frozen BK314.out 0; have hfz23_1 := blk_frozen BK314.out 1; have hfz23_2 := blk_frozen BK314.out 2; obtain ⟨Ao24, co24, eo24⟩ := Kd.R_slice HO309.out; subst eo24; obtain ⟨Ao25, co25, eo25⟩ := Kd.R_slice HO312.out; subst eo25) | ((with_reducible refine gate_callee (f := 9) rfl ?_); refine goesL_ (some 23) rfl rfl Try.func9 (by kernel_rfl) rfl #[.agg #[.int .i64 t306, .slice Ao24 t307.length co24, .slice Ao25 t310.length co25]] rfl (by (try simp only [List.map_toArray, List.map_cons, List.map_nil]); first | done | rfl | (simp only [List.length_drop, List.length_take]; rfl)) ?_; (with_reducible refine (slices_Slices.calls k t306 _ _ t307 _ _ t310 t315 t318 _ ?side1 ?side2 ?side3 ?side4 A5.out).mono ?_); (case side1 => refine (Kd.R_reads' (e := 3) (base := w.heap.size) (ok := fun k_ => True) (n := t307.length) (c := co24) ?_).2.2; exact (by (with_reducible repeat (first | apply Kd.R_alloc | apply Kd.R_drewN | apply Kd.R_drew)); exact (Kd.R_mono (Kd.R_far (p := ⟨gb314, 2, none⟩) (Kd.R_far (p := ⟨gb314, 1, none⟩) (Kd.R_far (p := ⟨gb314, 0, none⟩) (Kd.R_types HO309.out BK314.out (by decide)) (fun _ hk => hk.2) (.int .i64 t306)) (fun _ hk => hk.2) (.slice Ao24 t307.length co24)) (fun _ hk => hk.2) (.slice Ao25 t310.length co25)) (fun _ h_ => h_.1)))); (case side2 => exact (Kd.R_reads' HO309.out).2.1); (case side3 => refine (Kd.R_reads' (e := 27) (base := w.heap.size) (ok := fun k_ => (some k_ ≠ (.slice Ao24 t307.length co24 : Value).ownBlock ∧ k_ ≠ gb314)) (n := t310.length) (c := co25) ?_).2.2; exact (by (with_reducible repeat (first | apply Kd.R_alloc | apply Kd.R_drewN | apply Kd.R_drew)); exact (Kd.R_mono (Kd.R_far (p := ⟨gb314, 2, none⟩) (Kd.R_far (p := ⟨gb314, 1, none⟩) (Kd.R_far (p := ⟨gb314, 0, none⟩) (Kd.R_mono HO312.out (fun k_ hk => (⟨hk, hk.2⟩ : _ ∧ k_ ≠ gb314))) (fun _ hk => hk.2) (.int .i64 t306)) (fun _ hk => hk.2) (.slice Ao24 t307.length co24)) (fun _ hk => hk.2) (.slice Ao25 t310.length co25)) (fun _ h_ => h_.1)))); (case side4 => exact (Kd.R_reads' HO312.out).2.1); rintro e w26 ⟨v316, rfl, ho0, hb⟩; refine ⟨_, rfl, ?_⟩; have n0_ := Aside0.mk (Kd.R_elder' (by (with_reducible repeat (first | apply Kd.R_alloc | apply Kd.R_drewN | apply Kd.R_drew)); exact (Kd.R_mono (Kd.R_far (p := ⟨gb314, 2, none⟩) (Kd.R_far (p := ⟨gb314, 1, none⟩) (Kd.R_far (p := ⟨gb314, 0, none⟩) (Kd.R_types HO309.out BK314.out (by decide)) (fun _ hk => hk.2) (.int .i64 t306)) (fun _ hk => hk.2) (.slice Ao24 t307.length co24)) (fun _ hk => hk.2) (.slice Ao25 t310.length co25)) (fun _ h_ => h_.1))) (Kd.R_base ho0) hb); have n1_ := Aside0.mk (Kd.R_elder' (by (with_reducible repeat (first | apply Kd.R_alloc | apply Kd.R_drewN | apply Kd.R_drew)); exact (Kd.R_mono (Kd.R_far (p := ⟨gb314, 2, none⟩) (Kd.R_far (p := ⟨gb314, 1, none⟩) (Kd.R_far (p := ⟨gb314, 0, none⟩) (Kd.R_mono HO312.out (fun k_ hk => (⟨hk, hk.2⟩ : _ ∧ k_ ≠ gb314))) (fun _ hk => hk.2) (.int .i64 t306)) (fun _ hk => hk.2) (.slice Ao24 t307.length co24)) (fun _ hk => hk.2) (.slice Ao25 t310.length co25)) (fun _ h_ => h_.1))) (Kd.R_base ho0) hb); have n2_ := Aside0.mk (Kd.R_lower (Kd.R_new' ho0 (Kd.R_lt (by (with_reducible repeat (first | apply Kd.R_alloc | apply Kd.R_drewN | apply Kd.R_drew)); exact (Kd.R_mono (Kd.R_far (p := ⟨gb314, 2, none⟩) (Kd.R_far (p := ⟨gb314, 1, none⟩) (Kd.R_far (p := ⟨gb314, 0, none⟩) (Kd.R_types HO309.out BK314.out (by decide)) (fun _ hk => hk.2) (.int .i64 t306)) (fun _ hk => hk.2) (.slice Ao24 t307.length co24)) (fun _ hk => hk.2) (.slice Ao25 t310.length co25)) (fun _ h_ => h_.1))))) (below_size (by repeat (first | (with_reducible first | exact HB.out | apply below_alloc | apply pw_below_drewN | apply below_drew1 | refine below_set ?_ (IsS44.ge HI303.out) | refine below_set ?_ GE314.out) | exact HB.out)))); have n3_ := Aside0.mk (IsS44.below (show IsS44 w (((w21.setCell ⟨gb314, 0, none⟩ (.int .i64 t306)).setCell ⟨gb314, 1, none⟩ (.slice Ao24 t307.length co24)).setCell ⟨gb314, 2, none⟩ (.slice Ao25 t310.length co25)) g303 t301 t313 from by repeat (first | (with_reducible first | exact HI303.out | apply IsS44.alloc | apply IsS44.drewN | apply IsS44.drew | apply IsS44.set_1 | refine IsS44.far ?_ NB303_314.out _) | exact HI303.out)) hb); have n4_ := Aside0.mk (blk_below (g := gb314) (o := .cells #[.int .i64 t306, .slice Ao24 t307.length co24, .slice Ao25 t310.length co25] 27 (0, 0)) (by (with_reducible repeat (first | refine blk_drewN ?_ _ | refine blk_drew ?_ | refine blk_alloc ?_ _)); refine blk_put (cs := #[.int .i64 t306, .slice Ao24 t307.length co24, .slice none 0 0]) ?_ 2 _ rfl; (with_reducible repeat (first | refine blk_drewN ?_ _ | refine blk_drew ?_ | refine blk_alloc ?_ _)); refine blk_put (cs := #[.int .i64 t306, .slice none 0 0, .slice none 0 0]) ?_ 1 _ rfl; (with_reducible repeat (first | refine blk_drewN ?_ _ | refine blk_drew ?_ | refine blk_alloc ?_ _)); refine blk_put (cs := #[.int .i64 0, .slice none 0 0, .slice none 0 0]) ?_ 0 _ rfl; (with_reducible repeat (first | refine blk_drewN ?_ _ | refine blk_drew ?_ | refine blk_alloc ?_ _)); exact BK314.out) hb); have n5_ := Aside0.mk (below_step (by repeat (first | (with_reducible first | exact HB.out | apply below_alloc | apply pw_below_drewN | apply below_drew1 | refine below_set ?_ (IsS44.ge HI303.out) | refine below_set ?_ GE314.out) | exact HB.out)) hb); clear HO309; clear HO312; clear HI303; clear BK314; clear HB; have HO309 := n0_; have HO312 := n1_; have HO317 := n2_; have HI303 := n3_; have BK314 := n4_; have HB := n5_; clear n0_ n1_ n2_ n3_ n4_ n5_; (try clear hb); (try clear hb2); (try clear hk); (try clear hi); (try clear ho0); have hcz27_0 : w26.cell? ⟨gb314, 0, none⟩ = some (.int .i64 t306) := (blk_cell BK314.out 0).trans rfl; have hcz27_1 : w26.cell? ⟨gb314, 1, none⟩ = some (.slice Ao24 t307.length co24) := (blk_cell BK314.out 1).trans rfl; have hcz27_2 : w26.cell? ⟨gb314, 2, none⟩ = some (.slice Ao25 t310.length co25) := (blk_cell BK314.out 2).trans rfl; have hfz27_0 := blk_frozen BK314.out 0; have hfz27_1 := blk_frozen BK314.out 1; have hfz27_2 := blk_frozen BK314.out 2) | ((with_reducible refine gate_callee (f := 14) rfl ?_); refine goesL_ (some 28) rfl rfl Try.func14 (by kernel_rfl) rfl #[.agg #[.int .i64 t306, .slice Ao24 t307.length co24, .slice Ao25 t310.length co25]] rfl (by (try simp only [List.map_toArray, List.map_cons, List.map_nil]); first | done | rfl | (simp only [List.length_drop, List.length_take]; rfl)) ?_; (with_reducible refine (slices_Blocking.calls k t306 _ _ t307 _ _ t310 t319 t322 _ ?side1 ?side2 ?side3 ?side4 A6.out).mono ?_); (case side1 => repeat (first | exact (Kd.R_reads' HO309.out).2.2 | (with_reducible refine Kd.C_alloc ?_ _) | (with_reducible refine Kd.C_drewN ?_ _) | (with_reducible refine Kd.C_drew ?_))); (case side2 => exact (Kd.R_reads' HO309.out).2.1); (case side3 => repeat (first | exact (Kd.R_reads' HO312.out).2.2 | (with_reducible refine Kd.C_alloc ?_ _) | (with_reducible refine Kd.C_drewN ?_ _) | (with_reducible refine Kd.C_drew ?_))); (case side4 => exact (Kd.R_reads' HO312.out).2.1); rintro e w28 ⟨v320, rfl, ho0, hb⟩; refine ⟨_, rfl, ?_⟩; have n0_ := Aside0.mk (Kd.R_elder' (by (with_reducible repeat (first | apply Kd.R_alloc | apply Kd.R_drewN | apply Kd.R_drew)); exact HO309.out) (Kd.R_base ho0) hb); have n1_ := Aside0.mk (Kd.R_elder' (by (with_reducible repeat (first | apply Kd.R_alloc | apply Kd.R_drewN | apply Kd.R_drew)); exact HO312.out) (Kd.R_base ho0) hb); have n2_ := Aside0.mk (Kd.R_elder' (by (with_reducible repeat (first | apply Kd.R_alloc | apply Kd.R_drewN | apply Kd.R_drew)); exact HO317.out) (Kd.R_base ho0) hb); have n3_ := Aside0.mk (Kd.R_lower (Kd.R_new' (Kd.R_new' ho0 (Kd.R_lt (by (with_reducible repeat (first | apply Kd.R_alloc | apply Kd.R_drewN | apply Kd.R_drew)); exact HO309.out))) (Kd.R_lt (by (with_reducible repeat (first | apply Kd.R_alloc | apply Kd.R_drewN | apply Kd.R_drew)); exact HO317.out))) (below_size (by repeat (first | (with_reducible first | exact HB.out | apply below_alloc | apply pw_below_drewN | apply below_drew1 | refine below_set ?_ (IsS44.ge HI303.out) | refine below_set ?_ GE314.out) | exact HB.out)))); have n4_ := Aside0.mk (IsS44.below (by repeat (first | (with_reducible first | exact HI303.out | apply IsS44.alloc | apply IsS44.drewN | apply IsS44.drew | apply IsS44.set_1 | refine IsS44.far ?_ NB303_314.out _) | exact HI303.out)) hb); have n5_ := Aside0.mk (blk_below (g := gb314) (o := .cells #[.int .i64 t306, .slice Ao24 t307.length co24, .slice Ao25 t310.length co25] 27 (0, 0)) (by (with_reducible repeat (first | refine blk_drewN ?_ _ | refine blk_drew ?_ | refine blk_alloc ?_ _)); exact BK314.out) hb); have n6_ := Aside0.mk (below_step (by repeat (first | (with_reducible first | exact HB.out | apply below_alloc | apply pw_below_drewN | apply below_drew1 | refine below_set ?_ (IsS44.ge HI303.out) | refine below_set ?_ GE314.out) | exact HB.out)) hb); clear HO309; clear HO312; clear HO317; clear HI303; clear BK314; clear HB; have HO309 := n0_; have HO312 := n1_; have HO317 := n2_; have HO321 := n3_; have HI303 := n4_; have BK314 := n5_; have HB := n6_; clear n0_ n1_ n2_ n3_ n4_ n5_ n6_; (try clear hb); (try clear hb2); (try clear hk); (try clear hi); (try clear ho0); obtain ⟨Ao29, co29, eo29⟩ := Kd.R_slice HO317.out; subst eo29) | ((with_reducible refine gate_callee (f := 15) rfl ?_); refine goesL_ (some 34) rfl rfl Try.func15 (by kernel_rfl) rfl #[.slice Ao29 t315.length co29, .int .i64 t304] rfl (by (try simp only [List.map_toArray, List.map_cons, List.map_nil]); first | done | rfl | (simp only [List.length_drop, List.length_take]; rfl)) ?_; (with_reducible refine (trustquorumref01_Meeting.calls k _ _ t315 t304 t323 t324 _ ?side1 ?side2 A7.out).mono ?_); (case side1 => repeat (first | exact (Kd.R_reads' HO317.out).2.2 | (with_reducible refine Kd.C_alloc ?_ _) | (with_reducible refine Kd.C_drewN ?_ _) | (with_reducible refine Kd.C_drew ?_))); (case side2 => exact (Kd.R_reads' HO317.out).2.1); rintro e w30 ⟨v325, rfl, ho0, hb⟩; refine ⟨_, rfl, ?_⟩; have n0_ := Aside0.mk (Kd.R_elder' (by (with_reducible repeat (first | apply Kd.R_alloc | apply Kd.R_drewN | apply Kd.R_drew)); exact HO309.out) (Kd.R_base ho0) hb); have n1_ := Aside0.mk (Kd.R_elder' (by (with_reducible repeat (first | apply Kd.R_alloc | apply Kd.R_drewN | apply Kd.R_drew)); exact HO312.out) (Kd.R_base ho0) hb); have n2_ := Aside0.mk (Kd.R_elder' (by (with_reducible repeat (first | apply Kd.R_alloc | apply Kd.R_drewN | apply Kd.R_drew)); exact HO317.out) (Kd.R_base ho0) hb); have n3_ := Aside0.mk (Kd.R_elder' (by (with_reducible repeat (first | apply Kd.R_alloc | apply Kd.R_drewN | apply Kd.R_drew)); exact HO321.out) (Kd.R_base ho0) hb); have n4_ := Aside0.mk (Kd.R_lower (Kd.R_new' (Kd.R_new' (Kd.R_new' ho0 (Kd.R_lt (by (with_reducible repeat (first | apply Kd.R_alloc | apply Kd.R_drewN | apply Kd.R_drew)); exact HO309.out))) (Kd.R_lt (by (with_reducible repeat (first | apply Kd.R_alloc | apply Kd.R_drewN | apply Kd.R_drew)); exact HO317.out))) (Kd.R_lt (by (with_reducible repeat (first | apply Kd.R_alloc | apply Kd.R_drewN | apply Kd.R_drew)); exact HO321.out))) (below_size (by repeat (first | (with_reducible first | exact HB.out | apply below_alloc | apply pw_below_drewN | apply below_drew1 | refine below_set ?_ (IsS44.ge HI303.out) | refine below_set ?_ GE314.out) | exact HB.out)))); have n5_ := Aside0.mk (IsS44.below (by repeat (first | (with_reducible first | exact HI303.out | apply IsS44.alloc | apply IsS44.drewN | apply IsS44.drew | apply IsS44.set_1 | refine IsS44.far ?_ NB303_314.out _) | exact HI303.out)) hb); have n6_ := Aside0.mk (blk_below (g := gb314) (o := .cells #[.int .i64 t306, .slice Ao24 t307.length co24, .slice Ao25 t310.length co25] 27 (0, 0)) (by (with_reducible repeat (first | refine blk_drewN ?_ _ | refine blk_drew ?_ | refine blk_alloc ?_ _)); exact BK314.out) hb); have n7_ := Aside0.mk (below_step (by repeat (first | (with_reducible first | exact HB.out | apply below_alloc | apply pw_below_drewN | apply below_drew1 | refine below_set ?_ (IsS44.ge HI303.out) | refine below_set ?_ GE314.out) | exact HB.out)) hb); clear HO309; clear HO312; clear HO317; clear HO321; clear HI303; clear BK314; clear HB; have HO309 := n0_; have HO312 := n1_; have HO317 := n2_; have HO321 := n3_; have HO326 := n4_; have HI303 := n5_; have BK314 := n6_; have HB := n7_; clear n0_ n1_ n2_ n3_ n4_ n5_ n6_ n7_; (try clear hb); (try clear hb2); (try clear hk); (try clear hi); (try clear ho0); obtain ⟨Ao31, co31, eo31⟩ := Kd.R_slice HO321.out; subst eo31) | ((with_reducible refine gate_callee (f := 15) rfl ?_); refine goesL_ (some 40) rfl rfl Try.func15 (by kernel_rfl) rfl #[.slice Ao31 t319.length co31, .int .i64 t304] rfl (by (try simp only [List.map_toArray, List.map_cons, List.map_nil]); first | done | rfl | (simp only [List.length_drop, List.length_take]; rfl)) ?_; (with_reducible refine (trustquorumref01_Meeting.calls k _ _ t319 t304 t327 t328 _ ?side1 ?side2 A8.out).mono ?_); (case side1 => repeat (first | exact (Kd.R_reads' HO321.out).2.2 | (with_reducible refine Kd.C_alloc ?_ _) | (with_reducible refine Kd.C_drewN ?_ _) | (with_reducible refine Kd.C_drew ?_))); (case side2 => exact (Kd.R_reads' HO321.out).2.1); rintro e w32 ⟨v329, rfl, ho0, hb⟩; refine ⟨_, rfl, ?_⟩; have n0_ := Aside0.mk (Kd.R_elder' (by (with_reducible repeat (first | apply Kd.R_alloc | apply Kd.R_drewN | apply Kd.R_drew)); exact HO309.out) (Kd.R_base ho0) hb); have n1_ := Aside0.mk (Kd.R_elder' (by (with_reducible repeat (first | apply Kd.R_alloc | apply Kd.R_drewN | apply Kd.R_drew)); exact HO312.out) (Kd.R_base ho0) hb); have n2_ := Aside0.mk (Kd.R_elder' (by (with_reducible repeat (first | apply Kd.R_alloc | apply Kd.R_drewN | apply Kd.R_drew)); exact HO317.out) (Kd.R_base ho0) hb); have n3_ := Aside0.mk (Kd.R_elder' (by (with_reducible repeat (first | apply Kd.R_alloc | apply Kd.R_drewN | apply Kd.R_drew)); exact HO321.out) (Kd.R_base ho0) hb); have n4_ := Aside0.mk (Kd.R_elder' (by (with_reducible repeat (first | apply Kd.R_alloc | apply Kd.R_drewN | apply Kd.R_drew)); exact HO326.out) (Kd.R_base ho0) hb); have n5_ := Aside0.mk (Kd.R_lower (Kd.R_new' (Kd.R_new' (Kd.R_new' (Kd.R_new' ho0 (Kd.R_lt (by (with_reducible repeat (first | apply Kd.R_alloc | apply Kd.R_drewN | apply Kd.R_drew)); exact HO309.out))) (Kd.R_lt (by (with_reducible repeat (first | apply Kd.R_alloc | apply Kd.R_drewN | apply Kd.R_drew)); exact HO317.out))) (Kd.R_lt (by (with_reducible repeat (first | apply Kd.R_alloc | apply Kd.R_drewN | apply Kd.R_drew)); exact HO321.out))) (Kd.R_lt (by (with_reducible repeat (first | apply Kd.R_alloc | apply Kd.R_drewN | apply Kd.R_drew)); exact HO326.out))) (below_size (by repeat (first | (with_reducible first | exact HB.out | apply below_alloc | apply pw_below_drewN | apply below_drew1 | refine below_set ?_ (IsS44.ge HI303.out) | refine below_set ?_ GE314.out) | exact HB.out)))); have n6_ := Aside0.mk (IsS44.below (by repeat (first | (with_reducible first | exact HI303.out | apply IsS44.alloc | apply IsS44.drewN | apply IsS44.drew | apply IsS44.set_1 | refine IsS44.far ?_ NB303_314.out _) | exact HI303.out)) hb); have n7_ := Aside0.mk (blk_below (g := gb314) (o := .cells #[.int .i64 t306, .slice Ao24 t307.length co24, .slice Ao25 t310.length co25] 27 (0, 0)) (by (with_reducible repeat (first | refine blk_drewN ?_ _ | refine blk_drew ?_ | refine blk_alloc ?_ _)); exact BK314.out) hb); have n8_ := Aside0.mk (below_step (by repeat (first | (with_reducible first | exact HB.out | apply below_alloc | apply pw_below_drewN | apply below_drew1 | refine below_set ?_ (IsS44.ge HI303.out) | refine below_set ?_ GE314.out) | exact HB.out)) hb); clear HO309; clear HO312; clear HO317; clear HO321; clear HO326; clear HI303; clear BK314; clear HB; have HO309 := n0_; have HO312 := n1_; have HO317 := n2_; have HO321 := n3_; have HO326 := n4_; have HO330 := n5_; have HI303 := n6_; have BK314 := n7_; have HB := n8_; clear n0_ n1_ n2_ n3_ n4_ n5_ n6_ n7_ n8_; (try clear hb); (try clear hb2); (try clear hk); (try clear hi); (try clear ho0); obtain ⟨Ao33, co33, eo33⟩ := Kd.R_slice HO326.out; subst eo33) | (go_at_call 16; (with_reducible refine (trustquorummake_Ints.calls k _ _ t319 _ _ t323 true _ ?side1 ?side2 ?side3 ?side4 A13.out).mono ?_); (case side1 => repeat (first | exact (Kd.R_reads' HO321.out).2.2 | (with_reducible refine Kd.C_alloc ?_ _) | (with_reducible refine Kd.C_drewN ?_ _) | (with_reducible refine Kd.C_drew ?_))); (case side2 => exact (Kd.R_reads' HO321.out).2.1); (case side3 => repeat (first | exact (Kd.R_reads' HO326.out).2.2 | (with_reducible refine Kd.C_alloc ?_ _) | (with_reducible refine Kd.C_drewN ?_ _) | (with_reducible refine Kd.C_drew ?_))); (case side4 => exact (Kd.R_reads' HO326.out).2.1); rintro e w' ⟨rfl, ⟨nd, rfl⟩⟩; obtain ⟨Ao34, co34, eo34⟩ := Kd.R_slice HO330.out; subst eo34) | (go_at_call 16; (with_reducible refine (trustquorummake_Ints.calls k _ _ t315 _ _ t327 true _ ?side1 ?side2 ?side3 ?side4 A15.out).mono ?_); (case side1 => repeat (first | exact (Kd.R_reads' HO317.out).2.2 | (with_reducible refine Kd.C_alloc ?_ _) | (with_reducible refine Kd.C_drewN ?_ _) | (with_reducible refine Kd.C_drew ?_))); (case side2 => exact (Kd.R_reads' HO317.out).2.1); (case side3 => repeat (first | exact (Kd.R_reads' HO330.out).2.2 | (with_reducible refine Kd.C_alloc ?_ _) | (with_reducible refine Kd.C_drewN ?_ _) | (with_reducible refine Kd.C_drew ?_))); (case side4 => exact (Kd.R_reads' HO330.out).2.1); rintro e w' ⟨rfl, ⟨nd, rfl⟩⟩) | (go_at_call 13; (with_reducible refine (trustquorumlaw05_awake.calls  t333 _ A17.out).mono ?_); rintro e w35 ⟨rfl, hb⟩; have n0_ := Aside0.mk (Kd.R_below (by (with_reducible repeat (first | apply Kd.R_alloc | apply Kd.R_drewN | apply Kd.R_drew)); exact HO309.out) hb); have n1_ := Aside0.mk (Kd.R_below (by (with_reducible repeat (first | apply Kd.R_alloc | apply Kd.R_drewN | apply Kd.R_drew)); exact HO312.out) hb); have n2_ := Aside0.mk (Kd.R_below (by (with_reducible repeat (first | apply Kd.R_alloc | apply Kd.R_drewN | apply Kd.R_drew)); exact HO317.out) hb); have n3_ := Aside0.mk (Kd.R_below (by (with_reducible repeat (first | apply Kd.R_alloc | apply Kd.R_drewN | apply Kd.R_drew)); exact HO321.out) hb); have n4_ := Aside0.mk (Kd.R_below (by (with_reducible repeat (first | apply Kd.R_alloc | apply Kd.R_drewN | apply Kd.R_drew)); exact HO326.out) hb); have n5_ := Aside0.mk (Kd.R_below (by (with_reducible repeat (first | apply Kd.R_alloc | apply Kd.R_drewN | apply Kd.R_drew)); exact HO330.out) hb); have n6_ := Aside0.mk (IsS44.below (by repeat (first | (with_reducible first | exact HI303.out | apply IsS44.alloc | apply IsS44.drewN | apply IsS44.drew | apply IsS44.set_1 | refine IsS44.far ?_ NB303_314.out _) | exact HI303.out)) hb); have n7_ := Aside0.mk (blk_below (g := gb314) (o := .cells #[.int .i64 t306, .slice Ao24 t307.length co24, .slice Ao25 t310.length co25] 27 (0, 0)) (by (with_reducible repeat (first | refine blk_drewN ?_ _ | refine blk_drew ?_ | refine blk_alloc ?_ _)); exact BK314.out) hb); have n8_ := Aside0.mk (below_step (by repeat (first | (with_reducible first | exact HB.out | apply below_alloc | apply pw_below_drewN | apply below_drew1 | refine below_set ?_ (IsS44.ge HI303.out) | refine below_set ?_ GE314.out) | exact HB.out)) hb); clear HO309; clear HO312; clear HO317; clear HO321; clear HO326; clear HO330; clear HI303; clear BK314; clear HB; have HO309 := n0_; have HO312 := n1_; have HO317 := n2_; have HO321 := n3_; have HO326 := n4_; have HO330 := n5_; have HI303 := n6_; have BK314 := n7_; have HB := n8_; clear n0_ n1_ n2_ n3_ n4_ n5_ n6_ n7_ n8_; (try clear hb); (try clear hb2); (try clear hk); (try clear hi)))
              go_ret
              exact ⟨by first | rfl | (simp [errW_none, errW_some] <;> rfl) | (simp [*, errW_none, errW_some] <;> rfl), by repeat (first | (with_reducible first | exact HB.out | apply below_alloc | apply pw_below_drewN | apply below_drew1 | refine below_set ?_ (IsS44.ge HI303.out) | refine below_set ?_ GE314.out) | exact HB.out)⟩
            · replace c16 := Bool.eq_false_iff.mpr c16
              subst c16
              have H1 : (some false) = some r := by rw [if_neg (show ¬ (false = true) by decide)] at H; exact H
              clear H
              have H := H1
              clear H1
              obtain rfl := Option.some.inj H
              go_enter Try.func4, Try.ntmps4
              go_wp2_with (first | ((with_reducible refine gate_callee (f := 6) rfl ?_); refine goesL_ (some 15) rfl rfl Try.func6 (by kernel_rfl) rfl #[.slice A0 l0.length c0] rfl (by (try simp only [List.map_toArray, List.map_cons, List.map_nil]); first | done | rfl | (simp only [List.length_drop, List.length_take]; rfl)) ?_; (with_reducible refine (trustquorummake_New.calls _ _ l0 t301 t302 w _ ?side1 ?side2 ?side3 A2.out).mono ?_); (case side1 => repeat (first | (with_reducible first | exact HB.out | apply below_alloc | apply pw_below_drewN | apply below_drew1) | exact HB.out)); (case side2 => exact HR0.out); (case side3 => exact HC0.out); rintro e w36 ⟨g303, rfl, hi, hb, hb2⟩; refine ⟨_, rfl, ?_⟩; have n0_ := Aside0.mk (hb); have n1_ := Aside0.mk (hi); clear HB; have HB := n0_; have HI303 := n1_; clear n0_ n1_; (try clear hb); (try clear hb2); (try clear hk); (try clear hi)) | ((with_reducible refine gate_callee (f := 8) rfl ?_); refine goesL_ (some 17) rfl rfl Try.func8 (by kernel_rfl) rfl #[.pointer (some ⟨g303, 0, none⟩), .int .i64 1, .int .i64 8] rfl (by (try simp only [List.map_toArray, List.map_cons, List.map_nil]); first | done | rfl | (simp only [List.length_drop, List.length_take]; rfl)) ?_; (with_reducible refine (trustquorummake_Tape_Range.calls g303 t301 t302 1 8 t304 t305 w _ ?side1 ?side2 A3.out).mono ?_); (case side1 => repeat (first | (with_reducible first | exact HI303.out | apply IsS44.alloc | apply IsS44.drewN | apply IsS44.drew | apply IsS44.set_1) | exact HI303.out)); (case side2 => repeat (first | (with_reducible first | exact HB.out | apply below_alloc | apply pw_below_drewN | apply below_drew1 | refine below_set ?_ (IsS44.ge HI303.out)) | exact HB.out)); rintro e w37 ⟨rfl, hi, hb, hk⟩; refine ⟨_, rfl, ?_⟩; have n0_ := Aside0.mk (hb); have n1_ := Aside0.mk (hi); clear HB; clear HI303; have HB := n0_; have HI303 := n1_; clear n0_ n1_; (try clear hb); (try clear hb2); (try clear hk); (try clear hi)) | ((with_reducible refine gate_callee (f := 7) rfl ?_); refine goesL_ (some 20) rfl rfl Try.func7 (by kernel_rfl) rfl #[.pointer (some ⟨g303, 0, none⟩), .int .i64 t304, .int .i64 3] rfl (by (try simp only [List.map_toArray, List.map_cons, List.map_nil]); first | done | rfl | (simp only [List.length_drop, List.length_take]; rfl)) ?_; (with_reducible refine (trustquorummake_Trust.calls k g303 t301 t305 t304 3 t306 t307 t310 t313 w _ ?side1 ?side2 A4.out).mono ?_); (case side1 => repeat (first | (with_reducible first | exact HI303.out | apply IsS44.alloc | apply IsS44.drewN | apply IsS44.drew | apply IsS44.set_1) | exact HI303.out)); (case side2 => repeat (first | (with_reducible first | exact HB.out | apply below_alloc | apply pw_below_drewN | apply below_drew1 | refine below_set ?_ (IsS44.ge HI303.out)) | exact HB.out)); rintro e w38 ⟨v308, v311, rfl, ho0, ho1, hi, hb, hk⟩; refine ⟨_, rfl, ?_⟩; have n0_ := Aside0.mk (Kd.R_lower ho0 (below_size (by repeat (first | (with_reducible first | exact HB.out | apply below_alloc | apply pw_below_drewN | apply below_drew1 | refine below_set ?_ (IsS44.ge HI303.out)) | exact HB.out)))); have n1_ := Aside0.mk (Kd.R_lower ho1 (below_size (by repeat (first | (with_reducible first | exact HB.out | apply below_alloc | apply pw_below_drewN | apply below_drew1 | refine below_set ?_ (IsS44.ge HI303.out)) | exact HB.out)))); have n2_ := Aside0.mk (hb); have n3_ := Aside0.mk (hi); clear HB; clear HI303; have HO309 := n0_; have HO312 := n1_; have HB := n2_; have HI303 := n3_; clear n0_ n1_ n2_ n3_; (try clear hb); (try clear hb2); (try clear hk); (try clear hi); (try clear ho0); (try clear ho1)) | ((with_reducible refine gate_dst (N := 5) rfl ?_); refine box_event ?hg (N := 5) ?hd (cs := #[.int .i64 0, .slice none 0 0, .slice none 0 0]) (t := 27) ?hr ?_; (case hd => rfl); (case hg => rfl); (case hr => first | (go_simp; done) | (go_simp; rfl)); intro gb314 hg w39 hbox hb; have n0_ := Aside0.mk (Kd.R_below (by (with_reducible repeat (first | apply Kd.R_alloc | apply Kd.R_drewN | apply Kd.R_drew)); exact HO309.out) hb); have n1_ := Aside0.mk (Kd.R_below (Kd.R_elderB (by (with_reducible repeat (first | apply Kd.R_alloc | apply Kd.R_drewN | apply Kd.R_drew)); exact HO312.out) gb314 (Nat.le_of_eq hg.symm)) hb); have n2_ := Aside0.mk (IsS44.below (by repeat (first | (with_reducible first | exact HI303.out | apply IsS44.alloc | apply IsS44.drewN | apply IsS44.drew | apply IsS44.set_1) | exact HI303.out)) hb); have n3_ := Aside0.mk (below_step (by repeat (first | (with_reducible first | exact HB.out | apply below_alloc | apply pw_below_drewN | apply below_drew1 | refine below_set ?_ (IsS44.ge HI303.out)) | exact HB.out)) hb); have n4_ := Aside0.mk (hbox); have n5_ := Aside0.mk ((by rw [hg]; exact (below_size (by repeat (first | (with_reducible first | exact HB.out | apply below_alloc | apply pw_below_drewN | apply below_drew1 | refine below_set ?_ (IsS44.ge HI303.out)) | exact HB.out))) : w.heap.size ≤ gb314)); have n6_ := Aside0.mk ((by rw [hg]; exact (below_size (by repeat (first | (with_reducible first | exact HB.out | apply below_alloc | apply pw_below_drewN | apply below_drew1 | refine below_set ?_ (IsS44.ge HI303.out)) | exact HB.out))) : w.heap.size ≤ gb314)); have n7_ := Aside0.mk ((by rw [hg]; exact Nat.ne_of_lt (IsS44.lt (show IsS44 w _ g303 t301 t313 from by repeat (first | (with_reducible first | exact HI303.out | apply IsS44.alloc | apply IsS44.drewN | apply IsS44.drew | apply IsS44.set_1) | exact HI303.out))) : g303 ≠ gb314)); have n8_ := Aside0.mk ((by rw [hg]; exact Nat.ne_of_gt (IsS44.lt (show IsS44 w _ g303 t301 t313 from by repeat (first | (with_reducible first | exact HI303.out | apply IsS44.alloc | apply IsS44.drewN | apply IsS44.drew | apply IsS44.set_1) | exact HI303.out))) : gb314 ≠ g303)); clear HO309; clear HO312; clear HI303; clear HB; have HO309 := n0_; have HO312 := n1_; have HI303 := n2_; have HB := n3_; have BK314 := n4_; have GW314 := n5_; have GE314 := n6_; have NB303_314 := n7_; have NB314_303 := n8_; clear n0_ n1_ n2_ n3_ n4_ n5_ n6_ n7_ n8_; clear hb hbox hg; have hnb40 := NB314_303.out; have hnc40 := NB303_314.out; have hcz41_0 : w39.cell? ⟨gb314, 0, none⟩ = some (.int .i64 0) := (blk_cell BK314.out 0).trans rfl; have hcz41_1 : w39.cell? ⟨gb314, 1, none⟩ = some (.slice none 0 0) := (blk_cell BK314.out 1).trans rfl; have hcz41_2 : w39.cell? ⟨gb314, 2, none⟩ = some (.slice none 0 0) := (blk_cell BK314.out 2).trans rfl; have hfz41_0 := blk_frozen BK314.out 0; have hfz41_1 := blk_frozen BK314.out 1; have hfz41_2 := blk_frozen BK314.out 2; obtain ⟨Ao42, co42, eo42⟩ := Kd.R_slice HO309.out; subst eo42; obtain ⟨Ao43, co43, eo43⟩ := Kd.R_slice HO312.out; subst eo43) | ((with_reducible refine gate_callee (f := 9) rfl ?_); refine goesL_ (some 23) rfl rfl Try.func9 (by kernel_rfl) rfl #[.agg #[.int .i64 t306, .slice Ao42 t307.length co42, .slice Ao43 t310.length co43]] rfl (by (try simp only [List.map_toArray, List.map_cons, List.map_nil]); first | done | rfl | (simp only [List.length_drop, List.length_take]; rfl)) ?_; (with_reducible refine (slices_Slices.calls k t306 _ _ t307 _ _ t310 t315 t318 _ ?side1 ?side2 ?side3 ?side4 A5.out).mono ?_); (case side1 => refine (Kd.R_reads' (e := 3) (base := w.heap.size) (ok := fun k_ => True) (n := t307.length) (c := co42) ?_).2.2; exact (by (with_reducible repeat (first | apply Kd.R_alloc | apply Kd.R_drewN | apply Kd.R_drew)); exact (Kd.R_mono (Kd.R_far (p := ⟨gb314, 2, none⟩) (Kd.R_far (p := ⟨gb314, 1, none⟩) (Kd.R_far (p := ⟨gb314, 0, none⟩) (Kd.R_types HO309.out BK314.out (by decide)) (fun _ hk => hk.2) (.int .i64 t306)) (fun _ hk => hk.2) (.slice Ao42 t307.length co42)) (fun _ hk => hk.2) (.slice Ao43 t310.length co43)) (fun _ h_ => h_.1)))); (case side2 => exact (Kd.R_reads' HO309.out).2.1); (case side3 => refine (Kd.R_reads' (e := 27) (base := w.heap.size) (ok := fun k_ => (some k_ ≠ (.slice Ao42 t307.length co42 : Value).ownBlock ∧ k_ ≠ gb314)) (n := t310.length) (c := co43) ?_).2.2; exact (by (with_reducible repeat (first | apply Kd.R_alloc | apply Kd.R_drewN | apply Kd.R_drew)); exact (Kd.R_mono (Kd.R_far (p := ⟨gb314, 2, none⟩) (Kd.R_far (p := ⟨gb314, 1, none⟩) (Kd.R_far (p := ⟨gb314, 0, none⟩) (Kd.R_mono HO312.out (fun k_ hk => (⟨hk, hk.2⟩ : _ ∧ k_ ≠ gb314))) (fun _ hk => hk.2) (.int .i64 t306)) (fun _ hk => hk.2) (.slice Ao42 t307.length co42)) (fun _ hk => hk.2) (.slice Ao43 t310.length co43)) (fun _ h_ => h_.1)))); (case side4 => exact (Kd.R_reads' HO312.out).2.1); rintro e w44 ⟨v316, rfl, ho0, hb⟩; refine ⟨_, rfl, ?_⟩; have n0_ := Aside0.mk (Kd.R_elder' (by (with_reducible repeat (first | apply Kd.R_alloc | apply Kd.R_drewN | apply Kd.R_drew)); exact (Kd.R_mono (Kd.R_far (p := ⟨gb314, 2, none⟩) (Kd.R_far (p := ⟨gb314, 1, none⟩) (Kd.R_far (p := ⟨gb314, 0, none⟩) (Kd.R_types HO309.out BK314.out (by decide)) (fun _ hk => hk.2) (.int .i64 t306)) (fun _ hk => hk.2) (.slice Ao42 t307.length co42)) (fun _ hk => hk.2) (.slice Ao43 t310.length co43)) (fun _ h_ => h_.1))) (Kd.R_base ho0) hb); have n1_ := Aside0.mk (Kd.R_elder' (by (with_reducible repeat (first | apply Kd.R_alloc | apply Kd.R_drewN | apply Kd.R_drew)); exact (Kd.R_mono (Kd.R_far (p := ⟨gb314, 2, none⟩) (Kd.R_far (p := ⟨gb314, 1, none⟩) (Kd.R_far (p := ⟨gb314, 0, none⟩) (Kd.R_mono HO312.out (fun k_ hk => (⟨hk, hk.2⟩ : _ ∧ k_ ≠ gb314))) (fun _ hk => hk.2) (.int .i64 t306)) (fun _ hk => hk.2) (.slice Ao42 t307.length co42)) (fun _ hk => hk.2) (.slice Ao43 t310.length co43)) (fun _ h_ => h_.1))) (Kd.R_base ho0) hb); have n2_ := Aside0.mk (Kd.R_lower (Kd.R_new' ho0 (Kd.R_lt (by (with_reducible repeat (first | apply Kd.R_alloc | apply Kd.R_drewN | apply Kd.R_drew)); exact (Kd.R_mono (Kd.R_far (p := ⟨gb314, 2, none⟩) (Kd.R_far (p := ⟨gb314, 1, none⟩) (Kd.R_far (p := ⟨gb314, 0, none⟩) (Kd.R_types HO309.out BK314.out (by decide)) (fun _ hk => hk.2) (.int .i64 t306)) (fun _ hk => hk.2) (.slice Ao42 t307.length co42)) (fun _ hk => hk.2) (.slice Ao43 t310.length co43)) (fun _ h_ => h_.1))))) (below_size (by repeat (first | (with_reducible first | exact HB.out | apply below_alloc | apply pw_below_drewN | apply below_drew1 | refine below_set ?_ (IsS44.ge HI303.out) | refine below_set ?_ GE314.out) | exact HB.out)))); have n3_ := Aside0.mk (IsS44.below (show IsS44 w (((w39.setCell ⟨gb314, 0, none⟩ (.int .i64 t306)).setCell ⟨gb314, 1, none⟩ (.slice Ao42 t307.length co42)).setCell ⟨gb314, 2, none⟩ (.slice Ao43 t310.length co43)) g303 t301 t313 from by repeat (first | (with_reducible first | exact HI303.out | apply IsS44.alloc | apply IsS44.drewN | apply IsS44.drew | apply IsS44.set_1 | refine IsS44.far ?_ NB303_314.out _) | exact HI303.out)) hb); have n4_ := Aside0.mk (blk_below (g := gb314) (o := .cells #[.int .i64 t306, .slice Ao42 t307.length co42, .slice Ao43 t310.length co43] 27 (0, 0)) (by (with_reducible repeat (first | refine blk_drewN ?_ _ | refine blk_drew ?_ | refine blk_alloc ?_ _)); refine blk_put (cs := #[.int .i64 t306, .slice Ao42 t307.length co42, .slice none 0 0]) ?_ 2 _ rfl; (with_reducible repeat (first | refine blk_drewN ?_ _ | refine blk_drew ?_ | refine blk_alloc ?_ _)); refine blk_put (cs := #[.int .i64 t306, .slice none 0 0, .slice none 0 0]) ?_ 1 _ rfl; (with_reducible repeat (first | refine blk_drewN ?_ _ | refine blk_drew ?_ | refine blk_alloc ?_ _)); refine blk_put (cs := #[.int .i64 0, .slice none 0 0, .slice none 0 0]) ?_ 0 _ rfl; (with_reducible repeat (first | refine blk_drewN ?_ _ | refine blk_drew ?_ | refine blk_alloc ?_ _)); exact BK314.out) hb); have n5_ := Aside0.mk (below_step (by repeat (first | (with_reducible first | exact HB.out | apply below_alloc | apply pw_below_drewN | apply below_drew1 | refine below_set ?_ (IsS44.ge HI303.out) | refine below_set ?_ GE314.out) | exact HB.out)) hb); clear HO309; clear HO312; clear HI303; clear BK314; clear HB; have HO309 := n0_; have HO312 := n1_; have HO317 := n2_; have HI303 := n3_; have BK314 := n4_; have HB := n5_; clear n0_ n1_ n2_ n3_ n4_ n5_; (try clear hb); (try clear hb2); (try clear hk); (try clear hi); (try clear ho0); have hcz45_0 : w44.cell? ⟨gb314, 0, none⟩ = some (.int .i64 t306) := (blk_cell BK314.out 0).trans rfl; have hcz45_1 : w44.cell? ⟨gb314, 1, none⟩ = some (.slice Ao42 t307.length co42) := (blk_cell BK314.out 1).trans rfl; have hcz45_2 : w44.cell? ⟨gb314, 2, none⟩ = some (.slice Ao43 t310.length co43) := (blk_cell BK314.out 2).trans rfl; have hfz45_0 := blk_frozen BK314.out 0; have hfz45_1 := blk_frozen BK314.out 1; have hfz45_2 := blk_frozen BK314.out 2) | ((with_reducible refine gate_callee (f := 14) rfl ?_); refine goesL_ (some 28) rfl rfl Try.func14 (by kernel_rfl) rfl #[.agg #[.int .i64 t306, .slice Ao42 t307.length co42, .slice Ao43 t310.length co43]] rfl (by (try simp only [List.map_toArray, List.map_cons, List.map_nil]); first | done | rfl | (simp only [List.length_drop, List.length_take]; rfl)) ?_; (with_reducible refine (slices_Blocking.calls k t306 _ _ t307 _ _ t310 t319 t322 _ ?side1 ?side2 ?side3 ?side4 A6.out).mono ?_); (case side1 => repeat (first | exact (Kd.R_reads' HO309.out).2.2 | (with_reducible refine Kd.C_alloc ?_ _) | (with_reducible refine Kd.C_drewN ?_ _) | (with_reducible refine Kd.C_drew ?_))); (case side2 => exact (Kd.R_reads' HO309.out).2.1); (case side3 => repeat (first | exact (Kd.R_reads' HO312.out).2.2 | (with_reducible refine Kd.C_alloc ?_ _) | (with_reducible refine Kd.C_drewN ?_ _) | (with_reducible refine Kd.C_drew ?_))); (case side4 => exact (Kd.R_reads' HO312.out).2.1); rintro e w46 ⟨v320, rfl, ho0, hb⟩; refine ⟨_, rfl, ?_⟩; have n0_ := Aside0.mk (Kd.R_elder' (by (with_reducible repeat (first | apply Kd.R_alloc | apply Kd.R_drewN | apply Kd.R_drew)); exact HO309.out) (Kd.R_base ho0) hb); have n1_ := Aside0.mk (Kd.R_elder' (by (with_reducible repeat (first | apply Kd.R_alloc | apply Kd.R_drewN | apply Kd.R_drew)); exact HO312.out) (Kd.R_base ho0) hb); have n2_ := Aside0.mk (Kd.R_elder' (by (with_reducible repeat (first | apply Kd.R_alloc | apply Kd.R_drewN | apply Kd.R_drew)); exact HO317.out) (Kd.R_base ho0) hb); have n3_ := Aside0.mk (Kd.R_lower (Kd.R_new' (Kd.R_new' ho0 (Kd.R_lt (by (with_reducible repeat (first | apply Kd.R_alloc | apply Kd.R_drewN | apply Kd.R_drew)); exact HO309.out))) (Kd.R_lt (by (with_reducible repeat (first | apply Kd.R_alloc | apply Kd.R_drewN | apply Kd.R_drew)); exact HO317.out))) (below_size (by repeat (first | (with_reducible first | exact HB.out | apply below_alloc | apply pw_below_drewN | apply below_drew1 | refine below_set ?_ (IsS44.ge HI303.out) | refine below_set ?_ GE314.out) | exact HB.out)))); have n4_ := Aside0.mk (IsS44.below (by repeat (first | (with_reducible first | exact HI303.out | apply IsS44.alloc | apply IsS44.drewN | apply IsS44.drew | apply IsS44.set_1 | refine IsS44.far ?_ NB303_314.out _) | exact HI303.out)) hb); have n5_ := Aside0.mk (blk_below (g := gb314) (o := .cells #[.int .i64 t306, .slice Ao42 t307.length co42, .slice Ao43 t310.length co43] 27 (0, 0)) (by (with_reducible repeat (first | refine blk_drewN ?_ _ | refine blk_drew ?_ | refine blk_alloc ?_ _)); exact BK314.out) hb); have n6_ := Aside0.mk (below_step (by repeat (first | (with_reducible first | exact HB.out | apply below_alloc | apply pw_below_drewN | apply below_drew1 | refine below_set ?_ (IsS44.ge HI303.out) | refine below_set ?_ GE314.out) | exact HB.out)) hb); clear HO309; clear HO312; clear HO317; clear HI303; clear BK314; clear HB; have HO309 := n0_; have HO312 := n1_; have HO317 := n2_; have HO321 := n3_; have HI303 := n4_; have BK314 := n5_; have HB := n6_; clear n0_ n1_ n2_ n3_ n4_ n5_ n6_; (try clear hb); (try clear hb2); (try clear hk); (try clear hi); (try clear ho0); obtain ⟨Ao47, co47, eo47⟩ := Kd.R_slice HO317.out; subst eo47) | ((with_reducible refine gate_callee (f := 15) rfl ?_); refine goesL_ (some 34) rfl rfl Try.func15 (by kernel_rfl) rfl #[.slice Ao47 t315.length co47, .int .i64 t304] rfl (by (try simp only [List.map_toArray, List.map_cons, List.map_nil]); first | done | rfl | (simp only [List.length_drop, List.length_take]; rfl)) ?_; (with_reducible refine (trustquorumref01_Meeting.calls k _ _ t315 t304 t323 t324 _ ?side1 ?side2 A7.out).mono ?_); (case side1 => repeat (first | exact (Kd.R_reads' HO317.out).2.2 | (with_reducible refine Kd.C_alloc ?_ _) | (with_reducible refine Kd.C_drewN ?_ _) | (with_reducible refine Kd.C_drew ?_))); (case side2 => exact (Kd.R_reads' HO317.out).2.1); rintro e w48 ⟨v325, rfl, ho0, hb⟩; refine ⟨_, rfl, ?_⟩; have n0_ := Aside0.mk (Kd.R_elder' (by (with_reducible repeat (first | apply Kd.R_alloc | apply Kd.R_drewN | apply Kd.R_drew)); exact HO309.out) (Kd.R_base ho0) hb); have n1_ := Aside0.mk (Kd.R_elder' (by (with_reducible repeat (first | apply Kd.R_alloc | apply Kd.R_drewN | apply Kd.R_drew)); exact HO312.out) (Kd.R_base ho0) hb); have n2_ := Aside0.mk (Kd.R_elder' (by (with_reducible repeat (first | apply Kd.R_alloc | apply Kd.R_drewN | apply Kd.R_drew)); exact HO317.out) (Kd.R_base ho0) hb); have n3_ := Aside0.mk (Kd.R_elder' (by (with_reducible repeat (first | apply Kd.R_alloc | apply Kd.R_drewN | apply Kd.R_drew)); exact HO321.out) (Kd.R_base ho0) hb); have n4_ := Aside0.mk (Kd.R_lower (Kd.R_new' (Kd.R_new' (Kd.R_new' ho0 (Kd.R_lt (by (with_reducible repeat (first | apply Kd.R_alloc | apply Kd.R_drewN | apply Kd.R_drew)); exact HO309.out))) (Kd.R_lt (by (with_reducible repeat (first | apply Kd.R_alloc | apply Kd.R_drewN | apply Kd.R_drew)); exact HO317.out))) (Kd.R_lt (by (with_reducible repeat (first | apply Kd.R_alloc | apply Kd.R_drewN | apply Kd.R_drew)); exact HO321.out))) (below_size (by repeat (first | (with_reducible first | exact HB.out | apply below_alloc | apply pw_below_drewN | apply below_drew1 | refine below_set ?_ (IsS44.ge HI303.out) | refine below_set ?_ GE314.out) | exact HB.out)))); have n5_ := Aside0.mk (IsS44.below (by repeat (first | (with_reducible first | exact HI303.out | apply IsS44.alloc | apply IsS44.drewN | apply IsS44.drew | apply IsS44.set_1 | refine IsS44.far ?_ NB303_314.out _) | exact HI303.out)) hb); have n6_ := Aside0.mk (blk_below (g := gb314) (o := .cells #[.int .i64 t306, .slice Ao42 t307.length co42, .slice Ao43 t310.length co43] 27 (0, 0)) (by (with_reducible repeat (first | refine blk_drewN ?_ _ | refine blk_drew ?_ | refine blk_alloc ?_ _)); exact BK314.out) hb); have n7_ := Aside0.mk (below_step (by repeat (first | (with_reducible first | exact HB.out | apply below_alloc | apply pw_below_drewN | apply below_drew1 | refine below_set ?_ (IsS44.ge HI303.out) | refine below_set ?_ GE314.out) | exact HB.out)) hb); clear HO309; clear HO312; clear HO317; clear HO321; clear HI303; clear BK314; clear HB; have HO309 := n0_; have HO312 := n1_; have HO317 := n2_; have HO321 := n3_; have HO326 := n4_; have HI303 := n5_; have BK314 := n6_; have HB := n7_; clear n0_ n1_ n2_ n3_ n4_ n5_ n6_ n7_; (try clear hb); (try clear hb2); (try clear hk); (try clear hi); (try clear ho0); obtain ⟨Ao49, co49, eo49⟩ := Kd.R_slice HO321.out; subst eo49) | ((with_reducible refine gate_callee (f := 15) rfl ?_); refine goesL_ (some 40) rfl rfl Try.func15 (by kernel_rfl) rfl #[.slice Ao49 t319.length co49, .int .i64 t304] rfl (by (try simp only [List.map_toArray, List.map_cons, List.map_nil]); first | done | rfl | (simp only [List.length_drop, List.length_take]; rfl)) ?_; (with_reducible refine (trustquorumref01_Meeting.calls k _ _ t319 t304 t327 t328 _ ?side1 ?side2 A8.out).mono ?_); (case side1 => repeat (first | exact (Kd.R_reads' HO321.out).2.2 | (with_reducible refine Kd.C_alloc ?_ _) | (with_reducible refine Kd.C_drewN ?_ _) | (with_reducible refine Kd.C_drew ?_))); (case side2 => exact (Kd.R_reads' HO321.out).2.1); rintro e w50 ⟨v329, rfl, ho0, hb⟩; refine ⟨_, rfl, ?_⟩; have n0_ := Aside0.mk (Kd.R_elder' (by (with_reducible repeat (first | apply Kd.R_alloc | apply Kd.R_drewN | apply Kd.R_drew)); exact HO309.out) (Kd.R_base ho0) hb); have n1_ := Aside0.mk (Kd.R_elder' (by (with_reducible repeat (first | apply Kd.R_alloc | apply Kd.R_drewN | apply Kd.R_drew)); exact HO312.out) (Kd.R_base ho0) hb); have n2_ := Aside0.mk (Kd.R_elder' (by (with_reducible repeat (first | apply Kd.R_alloc | apply Kd.R_drewN | apply Kd.R_drew)); exact HO317.out) (Kd.R_base ho0) hb); have n3_ := Aside0.mk (Kd.R_elder' (by (with_reducible repeat (first | apply Kd.R_alloc | apply Kd.R_drewN | apply Kd.R_drew)); exact HO321.out) (Kd.R_base ho0) hb); have n4_ := Aside0.mk (Kd.R_elder' (by (with_reducible repeat (first | apply Kd.R_alloc | apply Kd.R_drewN | apply Kd.R_drew)); exact HO326.out) (Kd.R_base ho0) hb); have n5_ := Aside0.mk (Kd.R_lower (Kd.R_new' (Kd.R_new' (Kd.R_new' (Kd.R_new' ho0 (Kd.R_lt (by (with_reducible repeat (first | apply Kd.R_alloc | apply Kd.R_drewN | apply Kd.R_drew)); exact HO309.out))) (Kd.R_lt (by (with_reducible repeat (first | apply Kd.R_alloc | apply Kd.R_drewN | apply Kd.R_drew)); exact HO317.out))) (Kd.R_lt (by (with_reducible repeat (first | apply Kd.R_alloc | apply Kd.R_drewN | apply Kd.R_drew)); exact HO321.out))) (Kd.R_lt (by (with_reducible repeat (first | apply Kd.R_alloc | apply Kd.R_drewN | apply Kd.R_drew)); exact HO326.out))) (below_size (by repeat (first | (with_reducible first | exact HB.out | apply below_alloc | apply pw_below_drewN | apply below_drew1 | refine below_set ?_ (IsS44.ge HI303.out) | refine below_set ?_ GE314.out) | exact HB.out)))); have n6_ := Aside0.mk (IsS44.below (by repeat (first | (with_reducible first | exact HI303.out | apply IsS44.alloc | apply IsS44.drewN | apply IsS44.drew | apply IsS44.set_1 | refine IsS44.far ?_ NB303_314.out _) | exact HI303.out)) hb); have n7_ := Aside0.mk (blk_below (g := gb314) (o := .cells #[.int .i64 t306, .slice Ao42 t307.length co42, .slice Ao43 t310.length co43] 27 (0, 0)) (by (with_reducible repeat (first | refine blk_drewN ?_ _ | refine blk_drew ?_ | refine blk_alloc ?_ _)); exact BK314.out) hb); have n8_ := Aside0.mk (below_step (by repeat (first | (with_reducible first | exact HB.out | apply below_alloc | apply pw_below_drewN | apply below_drew1 | refine below_set ?_ (IsS44.ge HI303.out) | refine below_set ?_ GE314.out) | exact HB.out)) hb); clear HO309; clear HO312; clear HO317; clear HO321; clear HO326; clear HI303; clear BK314; clear HB; have HO309 := n0_; have HO312 := n1_; have HO317 := n2_; have HO321 := n3_; have HO326 := n4_; have HO330 := n5_; have HI303 := n6_; have BK314 := n7_; have HB := n8_; clear n0_ n1_ n2_ n3_ n4_ n5_ n6_ n7_ n8_; (try clear hb); (try clear hb2); (try clear hk); (try clear hi); (try clear ho0); obtain ⟨Ao51, co51, eo51⟩ := Kd.R_slice HO326.out; subst eo51) | (go_at_call 16; (with_reducible refine (trustquorummake_Ints.calls k _ _ t319 _ _ t323 true _ ?side1 ?side2 ?side3 ?side4 A13.out).mono ?_); (case side1 => repeat (first | exact (Kd.R_reads' HO321.out).2.2 | (with_reducible refine Kd.C_alloc ?_ _) | (with_reducible refine Kd.C_drewN ?_ _) | (with_reducible refine Kd.C_drew ?_))); (case side2 => exact (Kd.R_reads' HO321.out).2.1); (case side3 => repeat (first | exact (Kd.R_reads' HO326.out).2.2 | (with_reducible refine Kd.C_alloc ?_ _) | (with_reducible refine Kd.C_drewN ?_ _) | (with_reducible refine Kd.C_drew ?_))); (case side4 => exact (Kd.R_reads' HO326.out).2.1); rintro e w' ⟨rfl, ⟨nd, rfl⟩⟩; obtain ⟨Ao52, co52, eo52⟩ := Kd.R_slice HO330.out; subst eo52) | (go_at_call 16; (with_reducible refine (trustquorummake_Ints.calls k _ _ t315 _ _ t327 false _ ?side1 ?side2 ?side3 ?side4 A15.out).mono ?_); (case side1 => repeat (first | exact (Kd.R_reads' HO317.out).2.2 | (with_reducible refine Kd.C_alloc ?_ _) | (with_reducible refine Kd.C_drewN ?_ _) | (with_reducible refine Kd.C_drew ?_))); (case side2 => exact (Kd.R_reads' HO317.out).2.1); (case side3 => repeat (first | exact (Kd.R_reads' HO330.out).2.2 | (with_reducible refine Kd.C_alloc ?_ _) | (with_reducible refine Kd.C_drewN ?_ _) | (with_reducible refine Kd.C_drew ?_))); (case side4 => exact (Kd.R_reads' HO330.out).2.1); rintro e w' ⟨rfl, ⟨nd, rfl⟩⟩))
              go_ret
              exact ⟨by first | rfl | (simp [errW_none, errW_some] <;> rfl) | (simp [*, errW_none, errW_some] <;> rfl), by repeat (first | (with_reducible first | exact HB.out | apply below_alloc | apply pw_below_drewN | apply below_drew1 | refine below_set ?_ (IsS44.ge HI303.out) | refine below_set ?_ GE314.out) | exact HB.out)⟩
          · replace c14 := Bool.eq_false_iff.mpr c14
            subst c14
            have H1 : (some false) = some r := by rw [if_neg (show ¬ (false = true) by decide)] at H; exact H
            clear H
            have H := H1
            clear H1
            obtain rfl := Option.some.inj H
            go_enter Try.func4, Try.ntmps4
            go_wp2_with (first | ((with_reducible refine gate_callee (f := 6) rfl ?_); refine goesL_ (some 15) rfl rfl Try.func6 (by kernel_rfl) rfl #[.slice A0 l0.length c0] rfl (by (try simp only [List.map_toArray, List.map_cons, List.map_nil]); first | done | rfl | (simp only [List.length_drop, List.length_take]; rfl)) ?_; (with_reducible refine (trustquorummake_New.calls _ _ l0 t301 t302 w _ ?side1 ?side2 ?side3 A2.out).mono ?_); (case side1 => repeat (first | (with_reducible first | exact HB.out | apply below_alloc | apply pw_below_drewN | apply below_drew1) | exact HB.out)); (case side2 => exact HR0.out); (case side3 => exact HC0.out); rintro e w53 ⟨g303, rfl, hi, hb, hb2⟩; refine ⟨_, rfl, ?_⟩; have n0_ := Aside0.mk (hb); have n1_ := Aside0.mk (hi); clear HB; have HB := n0_; have HI303 := n1_; clear n0_ n1_; (try clear hb); (try clear hb2); (try clear hk); (try clear hi)) | ((with_reducible refine gate_callee (f := 8) rfl ?_); refine goesL_ (some 17) rfl rfl Try.func8 (by kernel_rfl) rfl #[.pointer (some ⟨g303, 0, none⟩), .int .i64 1, .int .i64 8] rfl (by (try simp only [List.map_toArray, List.map_cons, List.map_nil]); first | done | rfl | (simp only [List.length_drop, List.length_take]; rfl)) ?_; (with_reducible refine (trustquorummake_Tape_Range.calls g303 t301 t302 1 8 t304 t305 w _ ?side1 ?side2 A3.out).mono ?_); (case side1 => repeat (first | (with_reducible first | exact HI303.out | apply IsS44.alloc | apply IsS44.drewN | apply IsS44.drew | apply IsS44.set_1) | exact HI303.out)); (case side2 => repeat (first | (with_reducible first | exact HB.out | apply below_alloc | apply pw_below_drewN | apply below_drew1 | refine below_set ?_ (IsS44.ge HI303.out)) | exact HB.out)); rintro e w54 ⟨rfl, hi, hb, hk⟩; refine ⟨_, rfl, ?_⟩; have n0_ := Aside0.mk (hb); have n1_ := Aside0.mk (hi); clear HB; clear HI303; have HB := n0_; have HI303 := n1_; clear n0_ n1_; (try clear hb); (try clear hb2); (try clear hk); (try clear hi)) | ((with_reducible refine gate_callee (f := 7) rfl ?_); refine goesL_ (some 20) rfl rfl Try.func7 (by kernel_rfl) rfl #[.pointer (some ⟨g303, 0, none⟩), .int .i64 t304, .int .i64 3] rfl (by (try simp only [List.map_toArray, List.map_cons, List.map_nil]); first | done | rfl | (simp only [List.length_drop, List.length_take]; rfl)) ?_; (with_reducible refine (trustquorummake_Trust.calls k g303 t301 t305 t304 3 t306 t307 t310 t313 w _ ?side1 ?side2 A4.out).mono ?_); (case side1 => repeat (first | (with_reducible first | exact HI303.out | apply IsS44.alloc | apply IsS44.drewN | apply IsS44.drew | apply IsS44.set_1) | exact HI303.out)); (case side2 => repeat (first | (with_reducible first | exact HB.out | apply below_alloc | apply pw_below_drewN | apply below_drew1 | refine below_set ?_ (IsS44.ge HI303.out)) | exact HB.out)); rintro e w55 ⟨v308, v311, rfl, ho0, ho1, hi, hb, hk⟩; refine ⟨_, rfl, ?_⟩; have n0_ := Aside0.mk (Kd.R_lower ho0 (below_size (by repeat (first | (with_reducible first | exact HB.out | apply below_alloc | apply pw_below_drewN | apply below_drew1 | refine below_set ?_ (IsS44.ge HI303.out)) | exact HB.out)))); have n1_ := Aside0.mk (Kd.R_lower ho1 (below_size (by repeat (first | (with_reducible first | exact HB.out | apply below_alloc | apply pw_below_drewN | apply below_drew1 | refine below_set ?_ (IsS44.ge HI303.out)) | exact HB.out)))); have n2_ := Aside0.mk (hb); have n3_ := Aside0.mk (hi); clear HB; clear HI303; have HO309 := n0_; have HO312 := n1_; have HB := n2_; have HI303 := n3_; clear n0_ n1_ n2_ n3_; (try clear hb); (try clear hb2); (try clear hk); (try clear hi); (try clear ho0); (try clear ho1)) | ((with_reducible refine gate_dst (N := 5) rfl ?_); refine box_event ?hg (N := 5) ?hd (cs := #[.int .i64 0, .slice none 0 0, .slice none 0 0]) (t := 27) ?hr ?_; (case hd => rfl); (case hg => rfl); (case hr => first | (go_simp; done) | (go_simp; rfl)); intro gb314 hg w56 hbox hb; have n0_ := Aside0.mk (Kd.R_below (by (with_reducible repeat (first | apply Kd.R_alloc | apply Kd.R_drewN | apply Kd.R_drew)); exact HO309.out) hb); have n1_ := Aside0.mk (Kd.R_below (Kd.R_elderB (by (with_reducible repeat (first | apply Kd.R_alloc | apply Kd.R_drewN | apply Kd.R_drew)); exact HO312.out) gb314 (Nat.le_of_eq hg.symm)) hb); have n2_ := Aside0.mk (IsS44.below (by repeat (first | (with_reducible first | exact HI303.out | apply IsS44.alloc | apply IsS44.drewN | apply IsS44.drew | apply IsS44.set_1) | exact HI303.out)) hb); have n3_ := Aside0.mk (below_step (by repeat (first | (with_reducible first | exact HB.out | apply below_alloc | apply pw_below_drewN | apply below_drew1 | refine below_set ?_ (IsS44.ge HI303.out)) | exact HB.out)) hb); have n4_ := Aside0.mk (hbox); have n5_ := Aside0.mk ((by rw [hg]; exact (below_size (by repeat (first | (with_reducible first | exact HB.out | apply below_alloc | apply pw_below_drewN | apply below_drew1 | refine below_set ?_ (IsS44.ge HI303.out)) | exact HB.out))) : w.heap.size ≤ gb314)); have n6_ := Aside0.mk ((by rw [hg]; exact (below_size (by repeat (first | (with_reducible first | exact HB.out | apply below_alloc | apply pw_below_drewN | apply below_drew1 | refine below_set ?_ (IsS44.ge HI303.out)) | exact HB.out))) : w.heap.size ≤ gb314)); have n7_ := Aside0.mk ((by rw [hg]; exact Nat.ne_of_lt (IsS44.lt (show IsS44 w _ g303 t301 t313 from by repeat (first | (with_reducible first | exact HI303.out | apply IsS44.alloc | apply IsS44.drewN | apply IsS44.drew | apply IsS44.set_1) | exact HI303.out))) : g303 ≠ gb314)); have n8_ := Aside0.mk ((by rw [hg]; exact Nat.ne_of_gt (IsS44.lt (show IsS44 w _ g303 t301 t313 from by repeat (first | (with_reducible first | exact HI303.out | apply IsS44.alloc | apply IsS44.drewN | apply IsS44.drew | apply IsS44.set_1) | exact HI303.out))) : gb314 ≠ g303)); clear HO309; clear HO312; clear HI303; clear HB; have HO309 := n0_; have HO312 := n1_; have HI303 := n2_; have HB := n3_; have BK314 := n4_; have GW314 := n5_; have GE314 := n6_; have NB303_314 := n7_; have NB314_303 := n8_; clear n0_ n1_ n2_ n3_ n4_ n5_ n6_ n7_ n8_; clear hb hbox hg; have hnb57 := NB314_303.out; have hnc57 := NB303_314.out; have hcz58_0 : w56.cell? ⟨gb314, 0, none⟩ = some (.int .i64 0) := (blk_cell BK314.out 0).trans rfl; have hcz58_1 : w56.cell? ⟨gb314, 1, none⟩ = some (.slice none 0 0) := (blk_cell BK314.out 1).trans rfl; have hcz58_2 : w56.cell? ⟨gb314, 2, none⟩ = some (.slice none 0 0) := (blk_cell BK314.out 2).trans rfl; have hfz58_0 := blk_frozen BK314.out 0; have hfz58_1 := blk_frozen BK314.out 1; have hfz58_2 := blk_frozen BK314.out 2; obtain ⟨Ao59, co59, eo59⟩ := Kd.R_slice HO309.out; subst eo59; obtain ⟨Ao60, co60, eo60⟩ := Kd.R_slice HO312.out; subst eo60) | ((with_reducible refine gate_callee (f := 9) rfl ?_); refine goesL_ (some 23) rfl rfl Try.func9 (by kernel_rfl) rfl #[.agg #[.int .i64 t306, .slice Ao59 t307.length co59, .slice Ao60 t310.length co60]] rfl (by (try simp only [List.map_toArray, List.map_cons, List.map_nil]); first | done | rfl | (simp only [List.length_drop, List.length_take]; rfl)) ?_; (with_reducible refine (slices_Slices.calls k t306 _ _ t307 _ _ t310 t315 t318 _ ?side1 ?side2 ?side3 ?side4 A5.out).mono ?_); (case side1 => refine (Kd.R_reads' (e := 3) (base := w.heap.size) (ok := fun k_ => True) (n := t307.length) (c := co59) ?_).2.2; exact (by (with_reducible repeat (first | apply Kd.R_alloc | apply Kd.R_drewN | apply Kd.R_drew)); exact (Kd.R_mono (Kd.R_far (p := ⟨gb314, 2, none⟩) (Kd.R_far (p := ⟨gb314, 1, none⟩) (Kd.R_far (p := ⟨gb314, 0, none⟩) (Kd.R_types HO309.out BK314.out (by decide)) (fun _ hk => hk.2) (.int .i64 t306)) (fun _ hk => hk.2) (.slice Ao59 t307.length co59)) (fun _ hk => hk.2) (.slice Ao60 t310.length co60)) (fun _ h_ => h_.1)))); (case side2 => exact (Kd.R_reads' HO309.out).2.1); (case side3 => refine (Kd.R_reads' (e := 27) (base := w.heap.size) (ok := fun k_ => (some k_ ≠ (.slice Ao59 t307.length co59 : Value).ownBlock ∧ k_ ≠ gb314)) (n := t310.length) (c := co60) ?_).2.2; exact (by (with_reducible repeat (first | apply Kd.R_alloc | apply Kd.R_drewN | apply Kd.R_drew)); exact (Kd.R_mono (Kd.R_far (p := ⟨gb314, 2, none⟩) (Kd.R_far (p := ⟨gb314, 1, none⟩) (Kd.R_far (p := ⟨gb314, 0, none⟩) (Kd.R_mono HO312.out (fun k_ hk => (⟨hk, hk.2⟩ : _ ∧ k_ ≠ gb314))) (fun _ hk => hk.2) (.int .i64 t306)) (fun _ hk => hk.2) (.slice Ao59 t307.length co59)) (fun _ hk => hk.2) (.slice Ao60 t310.length co60)) (fun _ h_ => h_.1)))); (case side4 => exact (Kd.R_reads' HO312.out).2.1); rintro e w61 ⟨v316, rfl, ho0, hb⟩; refine ⟨_, rfl, ?_⟩; have n0_ := Aside0.mk (Kd.R_elder' (by (with_reducible repeat (first | apply Kd.R_alloc | apply Kd.R_drewN | apply Kd.R_drew)); exact (Kd.R_mono (Kd.R_far (p := ⟨gb314, 2, none⟩) (Kd.R_far (p := ⟨gb314, 1, none⟩) (Kd.R_far (p := ⟨gb314, 0, none⟩) (Kd.R_types HO309.out BK314.out (by decide)) (fun _ hk => hk.2) (.int .i64 t306)) (fun _ hk => hk.2) (.slice Ao59 t307.length co59)) (fun _ hk => hk.2) (.slice Ao60 t310.length co60)) (fun _ h_ => h_.1))) (Kd.R_base ho0) hb); have n1_ := Aside0.mk (Kd.R_elder' (by (with_reducible repeat (first | apply Kd.R_alloc | apply Kd.R_drewN | apply Kd.R_drew)); exact (Kd.R_mono (Kd.R_far (p := ⟨gb314, 2, none⟩) (Kd.R_far (p := ⟨gb314, 1, none⟩) (Kd.R_far (p := ⟨gb314, 0, none⟩) (Kd.R_mono HO312.out (fun k_ hk => (⟨hk, hk.2⟩ : _ ∧ k_ ≠ gb314))) (fun _ hk => hk.2) (.int .i64 t306)) (fun _ hk => hk.2) (.slice Ao59 t307.length co59)) (fun _ hk => hk.2) (.slice Ao60 t310.length co60)) (fun _ h_ => h_.1))) (Kd.R_base ho0) hb); have n2_ := Aside0.mk (Kd.R_lower (Kd.R_new' ho0 (Kd.R_lt (by (with_reducible repeat (first | apply Kd.R_alloc | apply Kd.R_drewN | apply Kd.R_drew)); exact (Kd.R_mono (Kd.R_far (p := ⟨gb314, 2, none⟩) (Kd.R_far (p := ⟨gb314, 1, none⟩) (Kd.R_far (p := ⟨gb314, 0, none⟩) (Kd.R_types HO309.out BK314.out (by decide)) (fun _ hk => hk.2) (.int .i64 t306)) (fun _ hk => hk.2) (.slice Ao59 t307.length co59)) (fun _ hk => hk.2) (.slice Ao60 t310.length co60)) (fun _ h_ => h_.1))))) (below_size (by repeat (first | (with_reducible first | exact HB.out | apply below_alloc | apply pw_below_drewN | apply below_drew1 | refine below_set ?_ (IsS44.ge HI303.out) | refine below_set ?_ GE314.out) | exact HB.out)))); have n3_ := Aside0.mk (IsS44.below (show IsS44 w (((w56.setCell ⟨gb314, 0, none⟩ (.int .i64 t306)).setCell ⟨gb314, 1, none⟩ (.slice Ao59 t307.length co59)).setCell ⟨gb314, 2, none⟩ (.slice Ao60 t310.length co60)) g303 t301 t313 from by repeat (first | (with_reducible first | exact HI303.out | apply IsS44.alloc | apply IsS44.drewN | apply IsS44.drew | apply IsS44.set_1 | refine IsS44.far ?_ NB303_314.out _) | exact HI303.out)) hb); have n4_ := Aside0.mk (blk_below (g := gb314) (o := .cells #[.int .i64 t306, .slice Ao59 t307.length co59, .slice Ao60 t310.length co60] 27 (0, 0)) (by (with_reducible repeat (first | refine blk_drewN ?_ _ | refine blk_drew ?_ | refine blk_alloc ?_ _)); refine blk_put (cs := #[.int .i64 t306, .slice Ao59 t307.length co59, .slice none 0 0]) ?_ 2 _ rfl; (with_reducible repeat (first | refine blk_drewN ?_ _ | refine blk_drew ?_ | refine blk_alloc ?_ _)); refine blk_put (cs := #[.int .i64 t306, .slice none 0 0, .slice none 0 0]) ?_ 1 _ rfl; (with_reducible repeat (first | refine blk_drewN ?_ _ | refine blk_drew ?_ | refine blk_alloc ?_ _)); refine blk_put (cs := #[.int .i64 0, .slice none 0 0, .slice none 0 0]) ?_ 0 _ rfl; (with_reducible repeat (first | refine blk_drewN ?_ _ | refine blk_drew ?_ | refine blk_alloc ?_ _)); exact BK314.out) hb); have n5_ := Aside0.mk (below_step (by repeat (first | (with_reducible first | exact HB.out | apply below_alloc | apply pw_below_drewN | apply below_drew1 | refine below_set ?_ (IsS44.ge HI303.out) | refine below_set ?_ GE314.out) | exact HB.out)) hb); clear HO309; clear HO312; clear HI303; clear BK314; clear HB; have HO309 := n0_; have HO312 := n1_; have HO317 := n2_; have HI303 := n3_; have BK314 := n4_; have HB := n5_; clear n0_ n1_ n2_ n3_ n4_ n5_; (try clear hb); (try clear hb2); (try clear hk); (try clear hi); (try clear ho0); have hcz62_0 : w61.cell? ⟨gb314, 0, none⟩ = some (.int .i64 t306) := (blk_cell BK314.out 0).trans rfl; have hcz62_1 : w61.cell? ⟨gb314, 1, none⟩ = some (.slice Ao59 t307.length co59) := (blk_cell BK314.out 1).trans rfl; have hcz62_2 : w61.cell? ⟨gb314, 2, none⟩ = some (.slice Ao60 t310.length co60) := (blk_cell BK314.out 2).trans rfl; have hfz62_0 := blk_frozen BK314.out 0; have hfz62_1 := blk_frozen BK314.out 1; have hfz62_2 := blk_frozen BK314.out 2) | ((with_reducible refine gate_callee (f := 14) rfl ?_); refine goesL_ (some 28) rfl rfl Try.func14 (by kernel_rfl) rfl #[.agg #[.int .i64 t306, .slice Ao59 t307.length co59, .slice Ao60 t310.length co60]] rfl (by (try simp only [List.map_toArray, List.map_cons, List.map_nil]); first | done | rfl | (simp only [List.length_drop, List.length_take]; rfl)) ?_; (with_reducible refine (slices_Blocking.calls k t306 _ _ t307 _ _ t310 t319 t322 _ ?side1 ?side2 ?side3 ?side4 A6.out).mono ?_); (case side1 => repeat (first | exact (Kd.R_reads' HO309.out).2.2 | (with_reducible refine Kd.C_alloc ?_ _) | (with_reducible refine Kd.C_drewN ?_ _) | (with_reducible refine Kd.C_drew ?_))); (case side2 => exact (Kd.R_reads' HO309.out).2.1); (case side3 => repeat (first | exact (Kd.R_reads' HO312.out).2.2 | (with_reducible refine Kd.C_alloc ?_ _) | (with_reducible refine Kd.C_drewN ?_ _) | (with_reducible refine Kd.C_drew ?_))); (case side4 => exact (Kd.R_reads' HO312.out).2.1); rintro e w63 ⟨v320, rfl, ho0, hb⟩; refine ⟨_, rfl, ?_⟩; have n0_ := Aside0.mk (Kd.R_elder' (by (with_reducible repeat (first | apply Kd.R_alloc | apply Kd.R_drewN | apply Kd.R_drew)); exact HO309.out) (Kd.R_base ho0) hb); have n1_ := Aside0.mk (Kd.R_elder' (by (with_reducible repeat (first | apply Kd.R_alloc | apply Kd.R_drewN | apply Kd.R_drew)); exact HO312.out) (Kd.R_base ho0) hb); have n2_ := Aside0.mk (Kd.R_elder' (by (with_reducible repeat (first | apply Kd.R_alloc | apply Kd.R_drewN | apply Kd.R_drew)); exact HO317.out) (Kd.R_base ho0) hb); have n3_ := Aside0.mk (Kd.R_lower (Kd.R_new' (Kd.R_new' ho0 (Kd.R_lt (by (with_reducible repeat (first | apply Kd.R_alloc | apply Kd.R_drewN | apply Kd.R_drew)); exact HO309.out))) (Kd.R_lt (by (with_reducible repeat (first | apply Kd.R_alloc | apply Kd.R_drewN | apply Kd.R_drew)); exact HO317.out))) (below_size (by repeat (first | (with_reducible first | exact HB.out | apply below_alloc | apply pw_below_drewN | apply below_drew1 | refine below_set ?_ (IsS44.ge HI303.out) | refine below_set ?_ GE314.out) | exact HB.out)))); have n4_ := Aside0.mk (IsS44.below (by repeat (first | (with_reducible first | exact HI303.out | apply IsS44.alloc | apply IsS44.drewN | apply IsS44.drew | apply IsS44.set_1 | refine IsS44.far ?_ NB303_314.out _) | exact HI303.out)) hb); have n5_ := Aside0.mk (blk_below (g := gb314) (o := .cells #[.int .i64 t306, .slice Ao59 t307.length co59, .slice Ao60 t310.length co60] 27 (0, 0)) (by (with_reducible repeat (first | refine blk_drewN ?_ _ | refine blk_drew ?_ | refine blk_alloc ?_ _)); exact BK314.out) hb); have n6_ := Aside0.mk (below_step (by repeat (first | (with_reducible first | exact HB.out | apply below_alloc | apply pw_below_drewN | apply below_drew1 | refine below_set ?_ (IsS44.ge HI303.out) | refine below_set ?_ GE314.out) | exact HB.out)) hb); clear HO309; clear HO312; clear HO317; clear HI303; clear BK314; clear HB; have HO309 := n0_; have HO312 := n1_; have HO317 := n2_; have HO321 := n3_; have HI303 := n4_; have BK314 := n5_; have HB := n6_; clear n0_ n1_ n2_ n3_ n4_ n5_ n6_; (try clear hb); (try clear hb2); (try clear hk); (try clear hi); (try clear ho0); obtain ⟨Ao64, co64, eo64⟩ := Kd.R_slice HO317.out; subst eo64) | ((with_reducible refine gate_callee (f := 15) rfl ?_); refine goesL_ (some 34) rfl rfl Try.func15 (by kernel_rfl) rfl #[.slice Ao64 t315.length co64, .int .i64 t304] rfl (by (try simp only [List.map_toArray, List.map_cons, List.map_nil]); first | done | rfl | (simp only [List.length_drop, List.length_take]; rfl)) ?_; (with_reducible refine (trustquorumref01_Meeting.calls k _ _ t315 t304 t323 t324 _ ?side1 ?side2 A7.out).mono ?_); (case side1 => repeat (first | exact (Kd.R_reads' HO317.out).2.2 | (with_reducible refine Kd.C_alloc ?_ _) | (with_reducible refine Kd.C_drewN ?_ _) | (with_reducible refine Kd.C_drew ?_))); (case side2 => exact (Kd.R_reads' HO317.out).2.1); rintro e w65 ⟨v325, rfl, ho0, hb⟩; refine ⟨_, rfl, ?_⟩; have n0_ := Aside0.mk (Kd.R_elder' (by (with_reducible repeat (first | apply Kd.R_alloc | apply Kd.R_drewN | apply Kd.R_drew)); exact HO309.out) (Kd.R_base ho0) hb); have n1_ := Aside0.mk (Kd.R_elder' (by (with_reducible repeat (first | apply Kd.R_alloc | apply Kd.R_drewN | apply Kd.R_drew)); exact HO312.out) (Kd.R_base ho0) hb); have n2_ := Aside0.mk (Kd.R_elder' (by (with_reducible repeat (first | apply Kd.R_alloc | apply Kd.R_drewN | apply Kd.R_drew)); exact HO317.out) (Kd.R_base ho0) hb); have n3_ := Aside0.mk (Kd.R_elder' (by (with_reducible repeat (first | apply Kd.R_alloc | apply Kd.R_drewN | apply Kd.R_drew)); exact HO321.out) (Kd.R_base ho0) hb); have n4_ := Aside0.mk (Kd.R_lower (Kd.R_new' (Kd.R_new' (Kd.R_new' ho0 (Kd.R_lt (by (with_reducible repeat (first | apply Kd.R_alloc | apply Kd.R_drewN | apply Kd.R_drew)); exact HO309.out))) (Kd.R_lt (by (with_reducible repeat (first | apply Kd.R_alloc | apply Kd.R_drewN | apply Kd.R_drew)); exact HO317.out))) (Kd.R_lt (by (with_reducible repeat (first | apply Kd.R_alloc | apply Kd.R_drewN | apply Kd.R_drew)); exact HO321.out))) (below_size (by repeat (first | (with_reducible first | exact HB.out | apply below_alloc | apply pw_below_drewN | apply below_drew1 | refine below_set ?_ (IsS44.ge HI303.out) | refine below_set ?_ GE314.out) | exact HB.out)))); have n5_ := Aside0.mk (IsS44.below (by repeat (first | (with_reducible first | exact HI303.out | apply IsS44.alloc | apply IsS44.drewN | apply IsS44.drew | apply IsS44.set_1 | refine IsS44.far ?_ NB303_314.out _) | exact HI303.out)) hb); have n6_ := Aside0.mk (blk_below (g := gb314) (o := .cells #[.int .i64 t306, .slice Ao59 t307.length co59, .slice Ao60 t310.length co60] 27 (0, 0)) (by (with_reducible repeat (first | refine blk_drewN ?_ _ | refine blk_drew ?_ | refine blk_alloc ?_ _)); exact BK314.out) hb); have n7_ := Aside0.mk (below_step (by repeat (first | (with_reducible first | exact HB.out | apply below_alloc | apply pw_below_drewN | apply below_drew1 | refine below_set ?_ (IsS44.ge HI303.out) | refine below_set ?_ GE314.out) | exact HB.out)) hb); clear HO309; clear HO312; clear HO317; clear HO321; clear HI303; clear BK314; clear HB; have HO309 := n0_; have HO312 := n1_; have HO317 := n2_; have HO321 := n3_; have HO326 := n4_; have HI303 := n5_; have BK314 := n6_; have HB := n7_; clear n0_ n1_ n2_ n3_ n4_ n5_ n6_ n7_; (try clear hb); (try clear hb2); (try clear hk); (try clear hi); (try clear ho0); obtain ⟨Ao66, co66, eo66⟩ := Kd.R_slice HO321.out; subst eo66) | ((with_reducible refine gate_callee (f := 15) rfl ?_); refine goesL_ (some 40) rfl rfl Try.func15 (by kernel_rfl) rfl #[.slice Ao66 t319.length co66, .int .i64 t304] rfl (by (try simp only [List.map_toArray, List.map_cons, List.map_nil]); first | done | rfl | (simp only [List.length_drop, List.length_take]; rfl)) ?_; (with_reducible refine (trustquorumref01_Meeting.calls k _ _ t319 t304 t327 t328 _ ?side1 ?side2 A8.out).mono ?_); (case side1 => repeat (first | exact (Kd.R_reads' HO321.out).2.2 | (with_reducible refine Kd.C_alloc ?_ _) | (with_reducible refine Kd.C_drewN ?_ _) | (with_reducible refine Kd.C_drew ?_))); (case side2 => exact (Kd.R_reads' HO321.out).2.1); rintro e w67 ⟨v329, rfl, ho0, hb⟩; refine ⟨_, rfl, ?_⟩; have n0_ := Aside0.mk (Kd.R_elder' (by (with_reducible repeat (first | apply Kd.R_alloc | apply Kd.R_drewN | apply Kd.R_drew)); exact HO309.out) (Kd.R_base ho0) hb); have n1_ := Aside0.mk (Kd.R_elder' (by (with_reducible repeat (first | apply Kd.R_alloc | apply Kd.R_drewN | apply Kd.R_drew)); exact HO312.out) (Kd.R_base ho0) hb); have n2_ := Aside0.mk (Kd.R_elder' (by (with_reducible repeat (first | apply Kd.R_alloc | apply Kd.R_drewN | apply Kd.R_drew)); exact HO317.out) (Kd.R_base ho0) hb); have n3_ := Aside0.mk (Kd.R_elder' (by (with_reducible repeat (first | apply Kd.R_alloc | apply Kd.R_drewN | apply Kd.R_drew)); exact HO321.out) (Kd.R_base ho0) hb); have n4_ := Aside0.mk (Kd.R_elder' (by (with_reducible repeat (first | apply Kd.R_alloc | apply Kd.R_drewN | apply Kd.R_drew)); exact HO326.out) (Kd.R_base ho0) hb); have n5_ := Aside0.mk (Kd.R_lower (Kd.R_new' (Kd.R_new' (Kd.R_new' (Kd.R_new' ho0 (Kd.R_lt (by (with_reducible repeat (first | apply Kd.R_alloc | apply Kd.R_drewN | apply Kd.R_drew)); exact HO309.out))) (Kd.R_lt (by (with_reducible repeat (first | apply Kd.R_alloc | apply Kd.R_drewN | apply Kd.R_drew)); exact HO317.out))) (Kd.R_lt (by (with_reducible repeat (first | apply Kd.R_alloc | apply Kd.R_drewN | apply Kd.R_drew)); exact HO321.out))) (Kd.R_lt (by (with_reducible repeat (first | apply Kd.R_alloc | apply Kd.R_drewN | apply Kd.R_drew)); exact HO326.out))) (below_size (by repeat (first | (with_reducible first | exact HB.out | apply below_alloc | apply pw_below_drewN | apply below_drew1 | refine below_set ?_ (IsS44.ge HI303.out) | refine below_set ?_ GE314.out) | exact HB.out)))); have n6_ := Aside0.mk (IsS44.below (by repeat (first | (with_reducible first | exact HI303.out | apply IsS44.alloc | apply IsS44.drewN | apply IsS44.drew | apply IsS44.set_1 | refine IsS44.far ?_ NB303_314.out _) | exact HI303.out)) hb); have n7_ := Aside0.mk (blk_below (g := gb314) (o := .cells #[.int .i64 t306, .slice Ao59 t307.length co59, .slice Ao60 t310.length co60] 27 (0, 0)) (by (with_reducible repeat (first | refine blk_drewN ?_ _ | refine blk_drew ?_ | refine blk_alloc ?_ _)); exact BK314.out) hb); have n8_ := Aside0.mk (below_step (by repeat (first | (with_reducible first | exact HB.out | apply below_alloc | apply pw_below_drewN | apply below_drew1 | refine below_set ?_ (IsS44.ge HI303.out) | refine below_set ?_ GE314.out) | exact HB.out)) hb); clear HO309; clear HO312; clear HO317; clear HO321; clear HO326; clear HI303; clear BK314; clear HB; have HO309 := n0_; have HO312 := n1_; have HO317 := n2_; have HO321 := n3_; have HO326 := n4_; have HO330 := n5_; have HI303 := n6_; have BK314 := n7_; have HB := n8_; clear n0_ n1_ n2_ n3_ n4_ n5_ n6_ n7_ n8_; (try clear hb); (try clear hb2); (try clear hk); (try clear hi); (try clear ho0); obtain ⟨Ao68, co68, eo68⟩ := Kd.R_slice HO326.out; subst eo68) | (go_at_call 16; (with_reducible refine (trustquorummake_Ints.calls k _ _ t319 _ _ t323 false _ ?side1 ?side2 ?side3 ?side4 A13.out).mono ?_); (case side1 => repeat (first | exact (Kd.R_reads' HO321.out).2.2 | (with_reducible refine Kd.C_alloc ?_ _) | (with_reducible refine Kd.C_drewN ?_ _) | (with_reducible refine Kd.C_drew ?_))); (case side2 => exact (Kd.R_reads' HO321.out).2.1); (case side3 => repeat (first | exact (Kd.R_reads' HO326.out).2.2 | (with_reducible refine Kd.C_alloc ?_ _) | (with_reducible refine Kd.C_drewN ?_ _) | (with_reducible refine Kd.C_drew ?_))); (case side4 => exact (Kd.R_reads' HO326.out).2.1); rintro e w' ⟨rfl, ⟨nd, rfl⟩⟩))
            go_ret
            exact ⟨by first | rfl | (simp [errW_none, errW_some] <;> rfl) | (simp [*, errW_none, errW_some] <;> rfl), by repeat (first | (with_reducible first | exact HB.out | apply below_alloc | apply pw_below_drewN | apply below_drew1 | refine below_set ?_ (IsS44.ge HI303.out) | refine below_set ?_ GE314.out) | exact HB.out)⟩
        · rw [if_neg c12] at H
          have c12b0 : (t328 == 0) = false := beq_eq_false_iff_ne.mpr c12
          have c12b1 : (t328 != 0) = true := bne_iff_ne.mpr c12
          obtain rfl := Option.some.inj H
          go_enter Try.func4, Try.ntmps4
          go_wp2_with (first | ((with_reducible refine gate_callee (f := 6) rfl ?_); refine goesL_ (some 15) rfl rfl Try.func6 (by kernel_rfl) rfl #[.slice A0 l0.length c0] rfl (by (try simp only [List.map_toArray, List.map_cons, List.map_nil]); first | done | rfl | (simp only [List.length_drop, List.length_take]; rfl)) ?_; (with_reducible refine (trustquorummake_New.calls _ _ l0 t301 t302 w _ ?side1 ?side2 ?side3 A2.out).mono ?_); (case side1 => repeat (first | (with_reducible first | exact HB.out | apply below_alloc | apply pw_below_drewN | apply below_drew1) | exact HB.out)); (case side2 => exact HR0.out); (case side3 => exact HC0.out); rintro e w69 ⟨g303, rfl, hi, hb, hb2⟩; refine ⟨_, rfl, ?_⟩; have n0_ := Aside0.mk (hb); have n1_ := Aside0.mk (hi); clear HB; have HB := n0_; have HI303 := n1_; clear n0_ n1_; (try clear hb); (try clear hb2); (try clear hk); (try clear hi)) | ((with_reducible refine gate_callee (f := 8) rfl ?_); refine goesL_ (some 17) rfl rfl Try.func8 (by kernel_rfl) rfl #[.pointer (some ⟨g303, 0, none⟩), .int .i64 1, .int .i64 8] rfl (by (try simp only [List.map_toArray, List.map_cons, List.map_nil]); first | done | rfl | (simp only [List.length_drop, List.length_take]; rfl)) ?_; (with_reducible refine (trustquorummake_Tape_Range.calls g303 t301 t302 1 8 t304 t305 w _ ?side1 ?side2 A3.out).mono ?_); (case side1 => repeat (first | (with_reducible first | exact HI303.out | apply IsS44.alloc | apply IsS44.drewN | apply IsS44.drew | apply IsS44.set_1) | exact HI303.out)); (case side2 => repeat (first | (with_reducible first | exact HB.out | apply below_alloc | apply pw_below_drewN | apply below_drew1 | refine below_set ?_ (IsS44.ge HI303.out)) | exact HB.out)); rintro e w70 ⟨rfl, hi, hb, hk⟩; refine ⟨_, rfl, ?_⟩; have n0_ := Aside0.mk (hb); have n1_ := Aside0.mk (hi); clear HB; clear HI303; have HB := n0_; have HI303 := n1_; clear n0_ n1_; (try clear hb); (try clear hb2); (try clear hk); (try clear hi)) | ((with_reducible refine gate_callee (f := 7) rfl ?_); refine goesL_ (some 20) rfl rfl Try.func7 (by kernel_rfl) rfl #[.pointer (some ⟨g303, 0, none⟩), .int .i64 t304, .int .i64 3] rfl (by (try simp only [List.map_toArray, List.map_cons, List.map_nil]); first | done | rfl | (simp only [List.length_drop, List.length_take]; rfl)) ?_; (with_reducible refine (trustquorummake_Trust.calls k g303 t301 t305 t304 3 t306 t307 t310 t313 w _ ?side1 ?side2 A4.out).mono ?_); (case side1 => repeat (first | (with_reducible first | exact HI303.out | apply IsS44.alloc | apply IsS44.drewN | apply IsS44.drew | apply IsS44.set_1) | exact HI303.out)); (case side2 => repeat (first | (with_reducible first | exact HB.out | apply below_alloc | apply pw_below_drewN | apply below_drew1 | refine below_set ?_ (IsS44.ge HI303.out)) | exact HB.out)); rintro e w71 ⟨v308, v311, rfl, ho0, ho1, hi, hb, hk⟩; refine ⟨_, rfl, ?_⟩; have n0_ := Aside0.mk (Kd.R_lower ho0 (below_size (by repeat (first | (with_reducible first | exact HB.out | apply below_alloc | apply pw_below_drewN | apply below_drew1 | refine below_set ?_ (IsS44.ge HI303.out)) | exact HB.out)))); have n1_ := Aside0.mk (Kd.R_lower ho1 (below_size (by repeat (first | (with_reducible first | exact HB.out | apply below_alloc | apply pw_below_drewN | apply below_drew1 | refine below_set ?_ (IsS44.ge HI303.out)) | exact HB.out)))); have n2_ := Aside0.mk (hb); have n3_ := Aside0.mk (hi); clear HB; clear HI303; have HO309 := n0_; have HO312 := n1_; have HB := n2_; have HI303 := n3_; clear n0_ n1_ n2_ n3_; (try clear hb); (try clear hb2); (try clear hk); (try clear hi); (try clear ho0); (try clear ho1)) | ((with_reducible refine gate_dst (N := 5) rfl ?_); refine box_event ?hg (N := 5) ?hd (cs := #[.int .i64 0, .slice none 0 0, .slice none 0 0]) (t := 27) ?hr ?_; (case hd => rfl); (case hg => rfl); (case hr => first | (go_simp; done) | (go_simp; rfl)); intro gb314 hg w72 hbox hb; have n0_ := Aside0.mk (Kd.R_below (by (with_reducible repeat (first | apply Kd.R_alloc | apply Kd.R_drewN | apply Kd.R_drew)); exact HO309.out) hb); have n1_ := Aside0.mk (Kd.R_below (Kd.R_elderB (by (with_reducible repeat (first | apply Kd.R_alloc | apply Kd.R_drewN | apply Kd.R_drew)); exact HO312.out) gb314 (Nat.le_of_eq hg.symm)) hb); have n2_ := Aside0.mk (IsS44.below (by repeat (first | (with_reducible first | exact HI303.out | apply IsS44.alloc | apply IsS44.drewN | apply IsS44.drew | apply IsS44.set_1) | exact HI303.out)) hb); have n3_ := Aside0.mk (below_step (by repeat (first | (with_reducible first | exact HB.out | apply below_alloc | apply pw_below_drewN | apply below_drew1 | refine below_set ?_ (IsS44.ge HI303.out)) | exact HB.out)) hb); have n4_ := Aside0.mk (hbox); have n5_ := Aside0.mk ((by rw [hg]; exact (below_size (by repeat (first | (with_reducible first | exact HB.out | apply below_alloc | apply pw_below_drewN | apply below_drew1 | refine below_set ?_ (IsS44.ge HI303.out)) | exact HB.out))) : w.heap.size ≤ gb314)); have n6_ := Aside0.mk ((by rw [hg]; exact (below_size (by repeat (first | (with_reducible first | exact HB.out | apply below_alloc | apply pw_below_drewN | apply below_drew1 | refine below_set ?_ (IsS44.ge HI303.out)) | exact HB.out))) : w.heap.size ≤ gb314)); have n7_ := Aside0.mk ((by rw [hg]; exact Nat.ne_of_lt (IsS44.lt (show IsS44 w _ g303 t301 t313 from by repeat (first | (with_reducible first | exact HI303.out | apply IsS44.alloc | apply IsS44.drewN | apply IsS44.drew | apply IsS44.set_1) | exact HI303.out))) : g303 ≠ gb314)); have n8_ := Aside0.mk ((by rw [hg]; exact Nat.ne_of_gt (IsS44.lt (show IsS44 w _ g303 t301 t313 from by repeat (first | (with_reducible first | exact HI303.out | apply IsS44.alloc | apply IsS44.drewN | apply IsS44.drew | apply IsS44.set_1) | exact HI303.out))) : gb314 ≠ g303)); clear HO309; clear HO312; clear HI303; clear HB; have HO309 := n0_; have HO312 := n1_; have HI303 := n2_; have HB := n3_; have BK314 := n4_; have GW314 := n5_; have GE314 := n6_; have NB303_314 := n7_; have NB314_303 := n8_; clear n0_ n1_ n2_ n3_ n4_ n5_ n6_ n7_ n8_; clear hb hbox hg; have hnb73 := NB314_303.out; have hnc73 := NB303_314.out; have hcz74_0 : w72.cell? ⟨gb314, 0, none⟩ = some (.int .i64 0) := (blk_cell BK314.out 0).trans rfl; have hcz74_1 : w72.cell? ⟨gb314, 1, none⟩ = some (.slice none 0 0) := (blk_cell BK314.out 1).trans rfl; have hcz74_2 : w72.cell? ⟨gb314, 2, none⟩ = some (.slice none 0 0) := (blk_cell BK314.out 2).trans rfl; have hfz74_0 := blk_frozen BK314.out 0; have hfz74_1 := blk_frozen BK314.out 1; have hfz74_2 := blk_frozen BK314.out 2; obtain ⟨Ao75, co75, eo75⟩ := Kd.R_slice HO309.out; subst eo75; obtain ⟨Ao76, co76, eo76⟩ := Kd.R_slice HO312.out; subst eo76) | ((with_reducible refine gate_callee (f := 9) rfl ?_); refine goesL_ (some 23) rfl rfl Try.func9 (by kernel_rfl) rfl #[.agg #[.int .i64 t306, .slice Ao75 t307.length co75, .slice Ao76 t310.length co76]] rfl (by (try simp only [List.map_toArray, List.map_cons, List.map_nil]); first | done | rfl | (simp only [List.length_drop, List.length_take]; rfl)) ?_; (with_reducible refine (slices_Slices.calls k t306 _ _ t307 _ _ t310 t315 t318 _ ?side1 ?side2 ?side3 ?side4 A5.out).mono ?_); (case side1 => refine (Kd.R_reads' (e := 3) (base := w.heap.size) (ok := fun k_ => True) (n := t307.length) (c := co75) ?_).2.2; exact (by (with_reducible repeat (first | apply Kd.R_alloc | apply Kd.R_drewN | apply Kd.R_drew)); exact (Kd.R_mono (Kd.R_far (p := ⟨gb314, 2, none⟩) (Kd.R_far (p := ⟨gb314, 1, none⟩) (Kd.R_far (p := ⟨gb314, 0, none⟩) (Kd.R_types HO309.out BK314.out (by decide)) (fun _ hk => hk.2) (.int .i64 t306)) (fun _ hk => hk.2) (.slice Ao75 t307.length co75)) (fun _ hk => hk.2) (.slice Ao76 t310.length co76)) (fun _ h_ => h_.1)))); (case side2 => exact (Kd.R_reads' HO309.out).2.1); (case side3 => refine (Kd.R_reads' (e := 27) (base := w.heap.size) (ok := fun k_ => (some k_ ≠ (.slice Ao75 t307.length co75 : Value).ownBlock ∧ k_ ≠ gb314)) (n := t310.length) (c := co76) ?_).2.2; exact (by (with_reducible repeat (first | apply Kd.R_alloc | apply Kd.R_drewN | apply Kd.R_drew)); exact (Kd.R_mono (Kd.R_far (p := ⟨gb314, 2, none⟩) (Kd.R_far (p := ⟨gb314, 1, none⟩) (Kd.R_far (p := ⟨gb314, 0, none⟩) (Kd.R_mono HO312.out (fun k_ hk => (⟨hk, hk.2⟩ : _ ∧ k_ ≠ gb314))) (fun _ hk => hk.2) (.int .i64 t306)) (fun _ hk => hk.2) (.slice Ao75 t307.length co75)) (fun _ hk => hk.2) (.slice Ao76 t310.length co76)) (fun _ h_ => h_.1)))); (case side4 => exact (Kd.R_reads' HO312.out).2.1); rintro e w77 ⟨v316, rfl, ho0, hb⟩; refine ⟨_, rfl, ?_⟩; have n0_ := Aside0.mk (Kd.R_elder' (by (with_reducible repeat (first | apply Kd.R_alloc | apply Kd.R_drewN | apply Kd.R_drew)); exact (Kd.R_mono (Kd.R_far (p := ⟨gb314, 2, none⟩) (Kd.R_far (p := ⟨gb314, 1, none⟩) (Kd.R_far (p := ⟨gb314, 0, none⟩) (Kd.R_types HO309.out BK314.out (by decide)) (fun _ hk => hk.2) (.int .i64 t306)) (fun _ hk => hk.2) (.slice Ao75 t307.length co75)) (fun _ hk => hk.2) (.slice Ao76 t310.length co76)) (fun _ h_ => h_.1))) (Kd.R_base ho0) hb); have n1_ := Aside0.mk (Kd.R_elder' (by (with_reducible repeat (first | apply Kd.R_alloc | apply Kd.R_drewN | apply Kd.R_drew)); exact (Kd.R_mono (Kd.R_far (p := ⟨gb314, 2, none⟩) (Kd.R_far (p := ⟨gb314, 1, none⟩) (Kd.R_far (p := ⟨gb314, 0, none⟩) (Kd.R_mono HO312.out (fun k_ hk => (⟨hk, hk.2⟩ : _ ∧ k_ ≠ gb314))) (fun _ hk => hk.2) (.int .i64 t306)) (fun _ hk => hk.2) (.slice Ao75 t307.length co75)) (fun _ hk => hk.2) (.slice Ao76 t310.length co76)) (fun _ h_ => h_.1))) (Kd.R_base ho0) hb); have n2_ := Aside0.mk (Kd.R_lower (Kd.R_new' ho0 (Kd.R_lt (by (with_reducible repeat (first | apply Kd.R_alloc | apply Kd.R_drewN | apply Kd.R_drew)); exact (Kd.R_mono (Kd.R_far (p := ⟨gb314, 2, none⟩) (Kd.R_far (p := ⟨gb314, 1, none⟩) (Kd.R_far (p := ⟨gb314, 0, none⟩) (Kd.R_types HO309.out BK314.out (by decide)) (fun _ hk => hk.2) (.int .i64 t306)) (fun _ hk => hk.2) (.slice Ao75 t307.length co75)) (fun _ hk => hk.2) (.slice Ao76 t310.length co76)) (fun _ h_ => h_.1))))) (below_size (by repeat (first | (with_reducible first | exact HB.out | apply below_alloc | apply pw_below_drewN | apply below_drew1 | refine below_set ?_ (IsS44.ge HI303.out) | refine below_set ?_ GE314.out) | exact HB.out)))); have n3_ := Aside0.mk (IsS44.below (show IsS44 w (((w72.setCell ⟨gb314, 0, none⟩ (.int .i64 t306)).setCell ⟨gb314, 1, none⟩ (.slice Ao75 t307.length co75)).setCell ⟨gb314, 2, none⟩ (.slice Ao76 t310.length co76)) g303 t301 t313 from by repeat (first | (with_reducible first | exact HI303.out | apply IsS44.alloc | apply IsS44.drewN | apply IsS44.drew | apply IsS44.set_1 | refine IsS44.far ?_ NB303_314.out _) | exact HI303.out)) hb); have n4_ := Aside0.mk (blk_below (g := gb314) (o := .cells #[.int .i64 t306, .slice Ao75 t307.length co75, .slice Ao76 t310.length co76] 27 (0, 0)) (by (with_reducible repeat (first | refine blk_drewN ?_ _ | refine blk_drew ?_ | refine blk_alloc ?_ _)); refine blk_put (cs := #[.int .i64 t306, .slice Ao75 t307.length co75, .slice none 0 0]) ?_ 2 _ rfl; (with_reducible repeat (first | refine blk_drewN ?_ _ | refine blk_drew ?_ | refine blk_alloc ?_ _)); refine blk_put (cs := #[.int .i64 t306, .slice none 0 0, .slice none 0 0]) ?_ 1 _ rfl; (with_reducible repeat (first | refine blk_drewN ?_ _ | refine blk_drew ?_ | refine blk_alloc ?_ _)); refine blk_put (cs := #[.int .i64 0, .slice none 0 0, .slice none 0 0]) ?_ 0 _ rfl; (with_reducible repeat (first | refine blk_drewN ?_ _ | refine blk_drew ?_ | refine blk_alloc ?_ _)); exact BK314.out) hb); have n5_ := Aside0.mk (below_step (by repeat (first | (with_reducible first | exact HB.out | apply below_alloc | apply pw_below_drewN | apply below_drew1 | refine below_set ?_ (IsS44.ge HI303.out) | refine below_set ?_ GE314.out) | exact HB.out)) hb); clear HO309; clear HO312; clear HI303; clear BK314; clear HB; have HO309 := n0_; have HO312 := n1_; have HO317 := n2_; have HI303 := n3_; have BK314 := n4_; have HB := n5_; clear n0_ n1_ n2_ n3_ n4_ n5_; (try clear hb); (try clear hb2); (try clear hk); (try clear hi); (try clear ho0); have hcz78_0 : w77.cell? ⟨gb314, 0, none⟩ = some (.int .i64 t306) := (blk_cell BK314.out 0).trans rfl; have hcz78_1 : w77.cell? ⟨gb314, 1, none⟩ = some (.slice Ao75 t307.length co75) := (blk_cell BK314.out 1).trans rfl; have hcz78_2 : w77.cell? ⟨gb314, 2, none⟩ = some (.slice Ao76 t310.length co76) := (blk_cell BK314.out 2).trans rfl; have hfz78_0 := blk_frozen BK314.out 0; have hfz78_1 := blk_frozen BK314.out 1; have hfz78_2 := blk_frozen BK314.out 2) | ((with_reducible refine gate_callee (f := 14) rfl ?_); refine goesL_ (some 28) rfl rfl Try.func14 (by kernel_rfl) rfl #[.agg #[.int .i64 t306, .slice Ao75 t307.length co75, .slice Ao76 t310.length co76]] rfl (by (try simp only [List.map_toArray, List.map_cons, List.map_nil]); first | done | rfl | (simp only [List.length_drop, List.length_take]; rfl)) ?_; (with_reducible refine (slices_Blocking.calls k t306 _ _ t307 _ _ t310 t319 t322 _ ?side1 ?side2 ?side3 ?side4 A6.out).mono ?_); (case side1 => repeat (first | exact (Kd.R_reads' HO309.out).2.2 | (with_reducible refine Kd.C_alloc ?_ _) | (with_reducible refine Kd.C_drewN ?_ _) | (with_reducible refine Kd.C_drew ?_))); (case side2 => exact (Kd.R_reads' HO309.out).2.1); (case side3 => repeat (first | exact (Kd.R_reads' HO312.out).2.2 | (with_reducible refine Kd.C_alloc ?_ _) | (with_reducible refine Kd.C_drewN ?_ _) | (with_reducible refine Kd.C_drew ?_))); (case side4 => exact (Kd.R_reads' HO312.out).2.1); rintro e w79 ⟨v320, rfl, ho0, hb⟩; refine ⟨_, rfl, ?_⟩; have n0_ := Aside0.mk (Kd.R_elder' (by (with_reducible repeat (first | apply Kd.R_alloc | apply Kd.R_drewN | apply Kd.R_drew)); exact HO309.out) (Kd.R_base ho0) hb); have n1_ := Aside0.mk (Kd.R_elder' (by (with_reducible repeat (first | apply Kd.R_alloc | apply Kd.R_drewN | apply Kd.R_drew)); exact HO312.out) (Kd.R_base ho0) hb); have n2_ := Aside0.mk (Kd.R_elder' (by (with_reducible repeat (first | apply Kd.R_alloc | apply Kd.R_drewN | apply Kd.R_drew)); exact HO317.out) (Kd.R_base ho0) hb); have n3_ := Aside0.mk (Kd.R_lower (Kd.R_new' (Kd.R_new' ho0 (Kd.R_lt (by (with_reducible repeat (first | apply Kd.R_alloc | apply Kd.R_drewN | apply Kd.R_drew)); exact HO309.out))) (Kd.R_lt (by (with_reducible repeat (first | apply Kd.R_alloc | apply Kd.R_drewN | apply Kd.R_drew)); exact HO317.out))) (below_size (by repeat (first | (with_reducible first | exact HB.out | apply below_alloc | apply pw_below_drewN | apply below_drew1 | refine below_set ?_ (IsS44.ge HI303.out) | refine below_set ?_ GE314.out) | exact HB.out)))); have n4_ := Aside0.mk (IsS44.below (by repeat (first | (with_reducible first | exact HI303.out | apply IsS44.alloc | apply IsS44.drewN | apply IsS44.drew | apply IsS44.set_1 | refine IsS44.far ?_ NB303_314.out _) | exact HI303.out)) hb); have n5_ := Aside0.mk (blk_below (g := gb314) (o := .cells #[.int .i64 t306, .slice Ao75 t307.length co75, .slice Ao76 t310.length co76] 27 (0, 0)) (by (with_reducible repeat (first | refine blk_drewN ?_ _ | refine blk_drew ?_ | refine blk_alloc ?_ _)); exact BK314.out) hb); have n6_ := Aside0.mk (below_step (by repeat (first | (with_reducible first | exact HB.out | apply below_alloc | apply pw_below_drewN | apply below_drew1 | refine below_set ?_ (IsS44.ge HI303.out) | refine below_set ?_ GE314.out) | exact HB.out)) hb); clear HO309; clear HO312; clear HO317; clear HI303; clear BK314; clear HB; have HO309 := n0_; have HO312 := n1_; have HO317 := n2_; have HO321 := n3_; have HI303 := n4_; have BK314 := n5_; have HB := n6_; clear n0_ n1_ n2_ n3_ n4_ n5_ n6_; (try clear hb); (try clear hb2); (try clear hk); (try clear hi); (try clear ho0); obtain ⟨Ao80, co80, eo80⟩ := Kd.R_slice HO317.out; subst eo80) | ((with_reducible refine gate_callee (f := 15) rfl ?_); refine goesL_ (some 34) rfl rfl Try.func15 (by kernel_rfl) rfl #[.slice Ao80 t315.length co80, .int .i64 t304] rfl (by (try simp only [List.map_toArray, List.map_cons, List.map_nil]); first | done | rfl | (simp only [List.length_drop, List.length_take]; rfl)) ?_; (with_reducible refine (trustquorumref01_Meeting.calls k _ _ t315 t304 t323 t324 _ ?side1 ?side2 A7.out).mono ?_); (case side1 => repeat (first | exact (Kd.R_reads' HO317.out).2.2 | (with_reducible refine Kd.C_alloc ?_ _) | (with_reducible refine Kd.C_drewN ?_ _) | (with_reducible refine Kd.C_drew ?_))); (case side2 => exact (Kd.R_reads' HO317.out).2.1); rintro e w81 ⟨v325, rfl, ho0, hb⟩; refine ⟨_, rfl, ?_⟩; have n0_ := Aside0.mk (Kd.R_elder' (by (with_reducible repeat (first | apply Kd.R_alloc | apply Kd.R_drewN | apply Kd.R_drew)); exact HO309.out) (Kd.R_base ho0) hb); have n1_ := Aside0.mk (Kd.R_elder' (by (with_reducible repeat (first | apply Kd.R_alloc | apply Kd.R_drewN | apply Kd.R_drew)); exact HO312.out) (Kd.R_base ho0) hb); have n2_ := Aside0.mk (Kd.R_elder' (by (with_reducible repeat (first | apply Kd.R_alloc | apply Kd.R_drewN | apply Kd.R_drew)); exact HO317.out) (Kd.R_base ho0) hb); have n3_ := Aside0.mk (Kd.R_elder' (by (with_reducible repeat (first | apply Kd.R_alloc | apply Kd.R_drewN | apply Kd.R_drew)); exact HO321.out) (Kd.R_base ho0) hb); have n4_ := Aside0.mk (Kd.R_lower (Kd.R_new' (Kd.R_new' (Kd.R_new' ho0 (Kd.R_lt (by (with_reducible repeat (first | apply Kd.R_alloc | apply Kd.R_drewN | apply Kd.R_drew)); exact HO309.out))) (Kd.R_lt (by (with_reducible repeat (first | apply Kd.R_alloc | apply Kd.R_drewN | apply Kd.R_drew)); exact HO317.out))) (Kd.R_lt (by (with_reducible repeat (first | apply Kd.R_alloc | apply Kd.R_drewN | apply Kd.R_drew)); exact HO321.out))) (below_size (by repeat (first | (with_reducible first | exact HB.out | apply below_alloc | apply pw_below_drewN | apply below_drew1 | refine below_set ?_ (IsS44.ge HI303.out) | refine below_set ?_ GE314.out) | exact HB.out)))); have n5_ := Aside0.mk (IsS44.below (by repeat (first | (with_reducible first | exact HI303.out | apply IsS44.alloc | apply IsS44.drewN | apply IsS44.drew | apply IsS44.set_1 | refine IsS44.far ?_ NB303_314.out _) | exact HI303.out)) hb); have n6_ := Aside0.mk (blk_below (g := gb314) (o := .cells #[.int .i64 t306, .slice Ao75 t307.length co75, .slice Ao76 t310.length co76] 27 (0, 0)) (by (with_reducible repeat (first | refine blk_drewN ?_ _ | refine blk_drew ?_ | refine blk_alloc ?_ _)); exact BK314.out) hb); have n7_ := Aside0.mk (below_step (by repeat (first | (with_reducible first | exact HB.out | apply below_alloc | apply pw_below_drewN | apply below_drew1 | refine below_set ?_ (IsS44.ge HI303.out) | refine below_set ?_ GE314.out) | exact HB.out)) hb); clear HO309; clear HO312; clear HO317; clear HO321; clear HI303; clear BK314; clear HB; have HO309 := n0_; have HO312 := n1_; have HO317 := n2_; have HO321 := n3_; have HO326 := n4_; have HI303 := n5_; have BK314 := n6_; have HB := n7_; clear n0_ n1_ n2_ n3_ n4_ n5_ n6_ n7_; (try clear hb); (try clear hb2); (try clear hk); (try clear hi); (try clear ho0); obtain ⟨Ao82, co82, eo82⟩ := Kd.R_slice HO321.out; subst eo82) | ((with_reducible refine gate_callee (f := 15) rfl ?_); refine goesL_ (some 40) rfl rfl Try.func15 (by kernel_rfl) rfl #[.slice Ao82 t319.length co82, .int .i64 t304] rfl (by (try simp only [List.map_toArray, List.map_cons, List.map_nil]); first | done | rfl | (simp only [List.length_drop, List.length_take]; rfl)) ?_; (with_reducible refine (trustquorumref01_Meeting.calls k _ _ t319 t304 t327 t328 _ ?side1 ?side2 A8.out).mono ?_); (case side1 => repeat (first | exact (Kd.R_reads' HO321.out).2.2 | (with_reducible refine Kd.C_alloc ?_ _) | (with_reducible refine Kd.C_drewN ?_ _) | (with_reducible refine Kd.C_drew ?_))); (case side2 => exact (Kd.R_reads' HO321.out).2.1); rintro e w83 ⟨v329, rfl, ho0, hb⟩; refine ⟨_, rfl, ?_⟩; have n0_ := Aside0.mk (Kd.R_elder' (by (with_reducible repeat (first | apply Kd.R_alloc | apply Kd.R_drewN | apply Kd.R_drew)); exact HO309.out) (Kd.R_base ho0) hb); have n1_ := Aside0.mk (Kd.R_elder' (by (with_reducible repeat (first | apply Kd.R_alloc | apply Kd.R_drewN | apply Kd.R_drew)); exact HO312.out) (Kd.R_base ho0) hb); have n2_ := Aside0.mk (Kd.R_elder' (by (with_reducible repeat (first | apply Kd.R_alloc | apply Kd.R_drewN | apply Kd.R_drew)); exact HO317.out) (Kd.R_base ho0) hb); have n3_ := Aside0.mk (Kd.R_elder' (by (with_reducible repeat (first | apply Kd.R_alloc | apply Kd.R_drewN | apply Kd.R_drew)); exact HO321.out) (Kd.R_base ho0) hb); have n4_ := Aside0.mk (Kd.R_elder' (by (with_reducible repeat (first | apply Kd.R_alloc | apply Kd.R_drewN | apply Kd.R_drew)); exact HO326.out) (Kd.R_base ho0) hb); have n5_ := Aside0.mk (Kd.R_lower (Kd.R_new' (Kd.R_new' (Kd.R_new' (Kd.R_new' ho0 (Kd.R_lt (by (with_reducible repeat (first | apply Kd.R_alloc | apply Kd.R_drewN | apply Kd.R_drew)); exact HO309.out))) (Kd.R_lt (by (with_reducible repeat (first | apply Kd.R_alloc | apply Kd.R_drewN | apply Kd.R_drew)); exact HO317.out))) (Kd.R_lt (by (with_reducible repeat (first | apply Kd.R_alloc | apply Kd.R_drewN | apply Kd.R_drew)); exact HO321.out))) (Kd.R_lt (by (with_reducible repeat (first | apply Kd.R_alloc | apply Kd.R_drewN | apply Kd.R_drew)); exact HO326.out))) (below_size (by repeat (first | (with_reducible first | exact HB.out | apply below_alloc | apply pw_below_drewN | apply below_drew1 | refine below_set ?_ (IsS44.ge HI303.out) | refine below_set ?_ GE314.out) | exact HB.out)))); have n6_ := Aside0.mk (IsS44.below (by repeat (first | (with_reducible first | exact HI303.out | apply IsS44.alloc | apply IsS44.drewN | apply IsS44.drew | apply IsS44.set_1 | refine IsS44.far ?_ NB303_314.out _) | exact HI303.out)) hb); have n7_ := Aside0.mk (blk_below (g := gb314) (o := .cells #[.int .i64 t306, .slice Ao75 t307.length co75, .slice Ao76 t310.length co76] 27 (0, 0)) (by (with_reducible repeat (first | refine blk_drewN ?_ _ | refine blk_drew ?_ | refine blk_alloc ?_ _)); exact BK314.out) hb); have n8_ := Aside0.mk (below_step (by repeat (first | (with_reducible first | exact HB.out | apply below_alloc | apply pw_below_drewN | apply below_drew1 | refine below_set ?_ (IsS44.ge HI303.out) | refine below_set ?_ GE314.out) | exact HB.out)) hb); clear HO309; clear HO312; clear HO317; clear HO321; clear HO326; clear HI303; clear BK314; clear HB; have HO309 := n0_; have HO312 := n1_; have HO317 := n2_; have HO321 := n3_; have HO326 := n4_; have HO330 := n5_; have HI303 := n6_; have BK314 := n7_; have HB := n8_; clear n0_ n1_ n2_ n3_ n4_ n5_ n6_ n7_ n8_; (try clear hb); (try clear hb2); (try clear hk); (try clear hi); (try clear ho0)))
          go_ret
          exact ⟨by first | rfl | (simp [errW_none, errW_some] <;> rfl) | (simp [*, errW_none, errW_some] <;> rfl), by repeat (first | (with_reducible first | exact HB.out | apply below_alloc | apply pw_below_drewN | apply below_drew1 | refine below_set ?_ (IsS44.ge HI303.out) | refine below_set ?_ GE314.out) | exact HB.out)⟩
      · rw [if_neg c11] at H
        have c11b0 : (t324 == 0) = false := beq_eq_false_iff_ne.mpr c11
        have c11b1 : (t324 != 0) = true := bne_iff_ne.mpr c11
        obtain rfl := Option.some.inj H
        go_enter Try.func4, Try.ntmps4
        go_wp2_with (first | ((with_reducible refine gate_callee (f := 6) rfl ?_); refine goesL_ (some 15) rfl rfl Try.func6 (by kernel_rfl) rfl #[.slice A0 l0.length c0] rfl (by (try simp only [List.map_toArray, List.map_cons, List.map_nil]); first | done | rfl | (simp only [List.length_drop, List.length_take]; rfl)) ?_; (with_reducible refine (trustquorummake_New.calls _ _ l0 t301 t302 w _ ?side1 ?side2 ?side3 A2.out).mono ?_); (case side1 => repeat (first | (with_reducible first | exact HB.out | apply below_alloc | apply pw_below_drewN | apply below_drew1) | exact HB.out)); (case side2 => exact HR0.out); (case side3 => exact HC0.out); rintro e w84 ⟨g303, rfl, hi, hb, hb2⟩; refine ⟨_, rfl, ?_⟩; have n0_ := Aside0.mk (hb); have n1_ := Aside0.mk (hi); clear HB; have HB := n0_; have HI303 := n1_; clear n0_ n1_; (try clear hb); (try clear hb2); (try clear hk); (try clear hi)) | ((with_reducible refine gate_callee (f := 8) rfl ?_); refine goesL_ (some 17) rfl rfl Try.func8 (by kernel_rfl) rfl #[.pointer (some ⟨g303, 0, none⟩), .int .i64 1, .int .i64 8] rfl (by (try simp only [List.map_toArray, List.map_cons, List.map_nil]); first | done | rfl | (simp only [List.length_drop, List.length_take]; rfl)) ?_; (with_reducible refine (trustquorummake_Tape_Range.calls g303 t301 t302 1 8 t304 t305 w _ ?side1 ?side2 A3.out).mono ?_); (case side1 => repeat (first | (with_reducible first | exact HI303.out | apply IsS44.alloc | apply IsS44.drewN | apply IsS44.drew | apply IsS44.set_1) | exact HI303.out)); (case side2 => repeat (first | (with_reducible first | exact HB.out | apply below_alloc | apply pw_below_drewN | apply below_drew1 | refine below_set ?_ (IsS44.ge HI303.out)) | exact HB.out)); rintro e w85 ⟨rfl, hi, hb, hk⟩; refine ⟨_, rfl, ?_⟩; have n0_ := Aside0.mk (hb); have n1_ := Aside0.mk (hi); clear HB; clear HI303; have HB := n0_; have HI303 := n1_; clear n0_ n1_; (try clear hb); (try clear hb2); (try clear hk); (try clear hi)) | ((with_reducible refine gate_callee (f := 7) rfl ?_); refine goesL_ (some 20) rfl rfl Try.func7 (by kernel_rfl) rfl #[.pointer (some ⟨g303, 0, none⟩), .int .i64 t304, .int .i64 3] rfl (by (try simp only [List.map_toArray, List.map_cons, List.map_nil]); first | done | rfl | (simp only [List.length_drop, List.length_take]; rfl)) ?_; (with_reducible refine (trustquorummake_Trust.calls k g303 t301 t305 t304 3 t306 t307 t310 t313 w _ ?side1 ?side2 A4.out).mono ?_); (case side1 => repeat (first | (with_reducible first | exact HI303.out | apply IsS44.alloc | apply IsS44.drewN | apply IsS44.drew | apply IsS44.set_1) | exact HI303.out)); (case side2 => repeat (first | (with_reducible first | exact HB.out | apply below_alloc | apply pw_below_drewN | apply below_drew1 | refine below_set ?_ (IsS44.ge HI303.out)) | exact HB.out)); rintro e w86 ⟨v308, v311, rfl, ho0, ho1, hi, hb, hk⟩; refine ⟨_, rfl, ?_⟩; have n0_ := Aside0.mk (Kd.R_lower ho0 (below_size (by repeat (first | (with_reducible first | exact HB.out | apply below_alloc | apply pw_below_drewN | apply below_drew1 | refine below_set ?_ (IsS44.ge HI303.out)) | exact HB.out)))); have n1_ := Aside0.mk (Kd.R_lower ho1 (below_size (by repeat (first | (with_reducible first | exact HB.out | apply below_alloc | apply pw_below_drewN | apply below_drew1 | refine below_set ?_ (IsS44.ge HI303.out)) | exact HB.out)))); have n2_ := Aside0.mk (hb); have n3_ := Aside0.mk (hi); clear HB; clear HI303; have HO309 := n0_; have HO312 := n1_; have HB := n2_; have HI303 := n3_; clear n0_ n1_ n2_ n3_; (try clear hb); (try clear hb2); (try clear hk); (try clear hi); (try clear ho0); (try clear ho1)) | ((with_reducible refine gate_dst (N := 5) rfl ?_); refine box_event ?hg (N := 5) ?hd (cs := #[.int .i64 0, .slice none 0 0, .slice none 0 0]) (t := 27) ?hr ?_; (case hd => rfl); (case hg => rfl); (case hr => first | (go_simp; done) | (go_simp; rfl)); intro gb314 hg w87 hbox hb; have n0_ := Aside0.mk (Kd.R_below (by (with_reducible repeat (first | apply Kd.R_alloc | apply Kd.R_drewN | apply Kd.R_drew)); exact HO309.out) hb); have n1_ := Aside0.mk (Kd.R_below (Kd.R_elderB (by (with_reducible repeat (first | apply Kd.R_alloc | apply Kd.R_drewN | apply Kd.R_drew)); exact HO312.out) gb314 (Nat.le_of_eq hg.symm)) hb); have n2_ := Aside0.mk (IsS44.below (by repeat (first | (with_reducible first | exact HI303.out | apply IsS44.alloc | apply IsS44.drewN | apply IsS44.drew | apply IsS44.set_1) | exact HI303.out)) hb); have n3_ := Aside0.mk (below_step (by repeat (first | (with_reducible first | exact HB.out | apply below_alloc | apply pw_below_drewN | apply below_drew1 | refine below_set ?_ (IsS44.ge HI303.out)) | exact HB.out)) hb); have n4_ := Aside0.mk (hbox); have n5_ := Aside0.mk ((by rw [hg]; exact (below_size (by repeat (first | (with_reducible first | exact HB.out | apply below_alloc | apply pw_below_drewN | apply below_drew1 | refine below_set ?_ (IsS44.ge HI303.out)) | exact HB.out))) : w.heap.size ≤ gb314)); have n6_ := Aside0.mk ((by rw [hg]; exact (below_size (by repeat (first | (with_reducible first | exact HB.out | apply below_alloc | apply pw_below_drewN | apply below_drew1 | refine below_set ?_ (IsS44.ge HI303.out)) | exact HB.out))) : w.heap.size ≤ gb314)); have n7_ := Aside0.mk ((by rw [hg]; exact Nat.ne_of_lt (IsS44.lt (show IsS44 w _ g303 t301 t313 from by repeat (first | (with_reducible first | exact HI303.out | apply IsS44.alloc | apply IsS44.drewN | apply IsS44.drew | apply IsS44.set_1) | exact HI303.out))) : g303 ≠ gb314)); have n8_ := Aside0.mk ((by rw [hg]; exact Nat.ne_of_gt (IsS44.lt (show IsS44 w _ g303 t301 t313 from by repeat (first | (with_reducible first | exact HI303.out | apply IsS44.alloc | apply IsS44.drewN | apply IsS44.drew | apply IsS44.set_1) | exact HI303.out))) : gb314 ≠ g303)); clear HO309; clear HO312; clear HI303; clear HB; have HO309 := n0_; have HO312 := n1_; have HI303 := n2_; have HB := n3_; have BK314 := n4_; have GW314 := n5_; have GE314 := n6_; have NB303_314 := n7_; have NB314_303 := n8_; clear n0_ n1_ n2_ n3_ n4_ n5_ n6_ n7_ n8_; clear hb hbox hg; have hnb88 := NB314_303.out; have hnc88 := NB303_314.out; have hcz89_0 : w87.cell? ⟨gb314, 0, none⟩ = some (.int .i64 0) := (blk_cell BK314.out 0).trans rfl; have hcz89_1 : w87.cell? ⟨gb314, 1, none⟩ = some (.slice none 0 0) := (blk_cell BK314.out 1).trans rfl; have hcz89_2 : w87.cell? ⟨gb314, 2, none⟩ = some (.slice none 0 0) := (blk_cell BK314.out 2).trans rfl; have hfz89_0 := blk_frozen BK314.out 0; have hfz89_1 := blk_frozen BK314.out 1; have hfz89_2 := blk_frozen BK314.out 2; obtain ⟨Ao90, co90, eo90⟩ := Kd.R_slice HO309.out; subst eo90; obtain ⟨Ao91, co91, eo91⟩ := Kd.R_slice HO312.out; subst eo91) | ((with_reducible refine gate_callee (f := 9) rfl ?_); refine goesL_ (some 23) rfl rfl Try.func9 (by kernel_rfl) rfl #[.agg #[.int .i64 t306, .slice Ao90 t307.length co90, .slice Ao91 t310.length co91]] rfl (by (try simp only [List.map_toArray, List.map_cons, List.map_nil]); first | done | rfl | (simp only [List.length_drop, List.length_take]; rfl)) ?_; (with_reducible refine (slices_Slices.calls k t306 _ _ t307 _ _ t310 t315 t318 _ ?side1 ?side2 ?side3 ?side4 A5.out).mono ?_); (case side1 => refine (Kd.R_reads' (e := 3) (base := w.heap.size) (ok := fun k_ => True) (n := t307.length) (c := co90) ?_).2.2; exact (by (with_reducible repeat (first | apply Kd.R_alloc | apply Kd.R_drewN | apply Kd.R_drew)); exact (Kd.R_mono (Kd.R_far (p := ⟨gb314, 2, none⟩) (Kd.R_far (p := ⟨gb314, 1, none⟩) (Kd.R_far (p := ⟨gb314, 0, none⟩) (Kd.R_types HO309.out BK314.out (by decide)) (fun _ hk => hk.2) (.int .i64 t306)) (fun _ hk => hk.2) (.slice Ao90 t307.length co90)) (fun _ hk => hk.2) (.slice Ao91 t310.length co91)) (fun _ h_ => h_.1)))); (case side2 => exact (Kd.R_reads' HO309.out).2.1); (case side3 => refine (Kd.R_reads' (e := 27) (base := w.heap.size) (ok := fun k_ => (some k_ ≠ (.slice Ao90 t307.length co90 : Value).ownBlock ∧ k_ ≠ gb314)) (n := t310.length) (c := co91) ?_).2.2; exact (by (with_reducible repeat (first | apply Kd.R_alloc | apply Kd.R_drewN | apply Kd.R_drew)); exact (Kd.R_mono (Kd.R_far (p := ⟨gb314, 2, none⟩) (Kd.R_far (p := ⟨gb314, 1, none⟩) (Kd.R_far (p := ⟨gb314, 0, none⟩) (Kd.R_mono HO312.out (fun k_ hk => (⟨hk, hk.2⟩ : _ ∧ k_ ≠ gb314))) (fun _ hk => hk.2) (.int .i64 t306)) (fun _ hk => hk.2) (.slice Ao90 t307.length co90)) (fun _ hk => hk.2) (.slice Ao91 t310.length co91)) (fun _ h_ => h_.1)))); (case side4 => exact (Kd.R_reads' HO312.out).2.1); rintro e w92 ⟨v316, rfl, ho0, hb⟩; refine ⟨_, rfl, ?_⟩; have n0_ := Aside0.mk (Kd.R_elder' (by (with_reducible repeat (first | apply Kd.R_alloc | apply Kd.R_drewN | apply Kd.R_drew)); exact (Kd.R_mono (Kd.R_far (p := ⟨gb314, 2, none⟩) (Kd.R_far (p := ⟨gb314, 1, none⟩) (Kd.R_far (p := ⟨gb314, 0, none⟩) (Kd.R_types HO309.out BK314.out (by decide)) (fun _ hk => hk.2) (.int .i64 t306)) (fun _ hk => hk.2) (.slice Ao90 t307.length co90)) (fun _ hk => hk.2) (.slice Ao91 t310.length co91)) (fun _ h_ => h_.1))) (Kd.R_base ho0) hb); have n1_ := Aside0.mk (Kd.R_elder' (by (with_reducible repeat (first | apply Kd.R_alloc | apply Kd.R_drewN | apply Kd.R_drew)); exact (Kd.R_mono (Kd.R_far (p := ⟨gb314, 2, none⟩) (Kd.R_far (p := ⟨gb314, 1, none⟩) (Kd.R_far (p := ⟨gb314, 0, none⟩) (Kd.R_mono HO312.out (fun k_ hk => (⟨hk, hk.2⟩ : _ ∧ k_ ≠ gb314))) (fun _ hk => hk.2) (.int .i64 t306)) (fun _ hk => hk.2) (.slice Ao90 t307.length co90)) (fun _ hk => hk.2) (.slice Ao91 t310.length co91)) (fun _ h_ => h_.1))) (Kd.R_base ho0) hb); have n2_ := Aside0.mk (Kd.R_lower (Kd.R_new' ho0 (Kd.R_lt (by (with_reducible repeat (first | apply Kd.R_alloc | apply Kd.R_drewN | apply Kd.R_drew)); exact (Kd.R_mono (Kd.R_far (p := ⟨gb314, 2, none⟩) (Kd.R_far (p := ⟨gb314, 1, none⟩) (Kd.R_far (p := ⟨gb314, 0, none⟩) (Kd.R_types HO309.out BK314.out (by decide)) (fun _ hk => hk.2) (.int .i64 t306)) (fun _ hk => hk.2) (.slice Ao90 t307.length co90)) (fun _ hk => hk.2) (.slice Ao91 t310.length co91)) (fun _ h_ => h_.1))))) (below_size (by repeat (first | (with_reducible first | exact HB.out | apply below_alloc | apply pw_below_drewN | apply below_drew1 | refine below_set ?_ (IsS44.ge HI303.out) | refine below_set ?_ GE314.out) | exact HB.out)))); have n3_ := Aside0.mk (IsS44.below (show IsS44 w (((w87.setCell ⟨gb314, 0, none⟩ (.int .i64 t306)).setCell ⟨gb314, 1, none⟩ (.slice Ao90 t307.length co90)).setCell ⟨gb314, 2, none⟩ (.slice Ao91 t310.length co91)) g303 t301 t313 from by repeat (first | (with_reducible first | exact HI303.out | apply IsS44.alloc | apply IsS44.drewN | apply IsS44.drew | apply IsS44.set_1 | refine IsS44.far ?_ NB303_314.out _) | exact HI303.out)) hb); have n4_ := Aside0.mk (blk_below (g := gb314) (o := .cells #[.int .i64 t306, .slice Ao90 t307.length co90, .slice Ao91 t310.length co91] 27 (0, 0)) (by (with_reducible repeat (first | refine blk_drewN ?_ _ | refine blk_drew ?_ | refine blk_alloc ?_ _)); refine blk_put (cs := #[.int .i64 t306, .slice Ao90 t307.length co90, .slice none 0 0]) ?_ 2 _ rfl; (with_reducible repeat (first | refine blk_drewN ?_ _ | refine blk_drew ?_ | refine blk_alloc ?_ _)); refine blk_put (cs := #[.int .i64 t306, .slice none 0 0, .slice none 0 0]) ?_ 1 _ rfl; (with_reducible repeat (first | refine blk_drewN ?_ _ | refine blk_drew ?_ | refine blk_alloc ?_ _)); refine blk_put (cs := #[.int .i64 0, .slice none 0 0, .slice none 0 0]) ?_ 0 _ rfl; (with_reducible repeat (first | refine blk_drewN ?_ _ | refine blk_drew ?_ | refine blk_alloc ?_ _)); exact BK314.out) hb); have n5_ := Aside0.mk (below_step (by repeat (first | (with_reducible first | exact HB.out | apply below_alloc | apply pw_below_drewN | apply below_drew1 | refine below_set ?_ (IsS44.ge HI303.out) | refine below_set ?_ GE314.out) | exact HB.out)) hb); clear HO309; clear HO312; clear HI303; clear BK314; clear HB; have HO309 := n0_; have HO312 := n1_; have HO317 := n2_; have HI303 := n3_; have BK314 := n4_; have HB := n5_; clear n0_ n1_ n2_ n3_ n4_ n5_; (try clear hb); (try clear hb2); (try clear hk); (try clear hi); (try clear ho0); have hcz93_0 : w92.cell? ⟨gb314, 0, none⟩ = some (.int .i64 t306) := (blk_cell BK314.out 0).trans rfl; have hcz93_1 : w92.cell? ⟨gb314, 1, none⟩ = some (.slice Ao90 t307.length co90) := (blk_cell BK314.out 1).trans rfl; have hcz93_2 : w92.cell? ⟨gb314, 2, none⟩ = some (.slice Ao91 t310.length co91) := (blk_cell BK314.out 2).trans rfl; have hfz93_0 := blk_frozen BK314.out 0; have hfz93_1 := blk_frozen BK314.out 1; have hfz93_2 := blk_frozen BK314.out 2) | ((with_reducible refine gate_callee (f := 14) rfl ?_); refine goesL_ (some 28) rfl rfl Try.func14 (by kernel_rfl) rfl #[.agg #[.int .i64 t306, .slice Ao90 t307.length co90, .slice Ao91 t310.length co91]] rfl (by (try simp only [List.map_toArray, List.map_cons, List.map_nil]); first | done | rfl | (simp only [List.length_drop, List.length_take]; rfl)) ?_; (with_reducible refine (slices_Blocking.calls k t306 _ _ t307 _ _ t310 t319 t322 _ ?side1 ?side2 ?side3 ?side4 A6.out).mono ?_); (case side1 => repeat (first | exact (Kd.R_reads' HO309.out).2.2 | (with_reducible refine Kd.C_alloc ?_ _) | (with_reducible refine Kd.C_drewN ?_ _) | (with_reducible refine Kd.C_drew ?_))); (case side2 => exact (Kd.R_reads' HO309.out).2.1); (case side3 => repeat (first | exact (Kd.R_reads' HO312.out).2.2 | (with_reducible refine Kd.C_alloc ?_ _) | (with_reducible refine Kd.C_drewN ?_ _) | (with_reducible refine Kd.C_drew ?_))); (case side4 => exact (Kd.R_reads' HO312.out).2.1); rintro e w94 ⟨v320, rfl, ho0, hb⟩; refine ⟨_, rfl, ?_⟩; have n0_ := Aside0.mk (Kd.R_elder' (by (with_reducible repeat (first | apply Kd.R_alloc | apply Kd.R_drewN | apply Kd.R_drew)); exact HO309.out) (Kd.R_base ho0) hb); have n1_ := Aside0.mk (Kd.R_elder' (by (with_reducible repeat (first | apply Kd.R_alloc | apply Kd.R_drewN | apply Kd.R_drew)); exact HO312.out) (Kd.R_base ho0) hb); have n2_ := Aside0.mk (Kd.R_elder' (by (with_reducible repeat (first | apply Kd.R_alloc | apply Kd.R_drewN | apply Kd.R_drew)); exact HO317.out) (Kd.R_base ho0) hb); have n3_ := Aside0.mk (Kd.R_lower (Kd.R_new' (Kd.R_new' ho0 (Kd.R_lt (by (with_reducible repeat (first | apply Kd.R_alloc | apply Kd.R_drewN | apply Kd.R_drew)); exact HO309.out))) (Kd.R_lt (by (with_reducible repeat (first | apply Kd.R_alloc | apply Kd.R_drewN | apply Kd.R_drew)); exact HO317.out))) (below_size (by repeat (first | (with_reducible first | exact HB.out | apply below_alloc | apply pw_below_drewN | apply below_drew1 | refine below_set ?_ (IsS44.ge HI303.out) | refine below_set ?_ GE314.out) | exact HB.out)))); have n4_ := Aside0.mk (IsS44.below (by repeat (first | (with_reducible first | exact HI303.out | apply IsS44.alloc | apply IsS44.drewN | apply IsS44.drew | apply IsS44.set_1 | refine IsS44.far ?_ NB303_314.out _) | exact HI303.out)) hb); have n5_ := Aside0.mk (blk_below (g := gb314) (o := .cells #[.int .i64 t306, .slice Ao90 t307.length co90, .slice Ao91 t310.length co91] 27 (0, 0)) (by (with_reducible repeat (first | refine blk_drewN ?_ _ | refine blk_drew ?_ | refine blk_alloc ?_ _)); exact BK314.out) hb); have n6_ := Aside0.mk (below_step (by repeat (first | (with_reducible first | exact HB.out | apply below_alloc | apply pw_below_drewN | apply below_drew1 | refine below_set ?_ (IsS44.ge HI303.out) | refine below_set ?_ GE314.out) | exact HB.out)) hb); clear HO309; clear HO312; clear HO317; clear HI303; clear BK314; clear HB; have HO309 := n0_; have HO312 := n1_; have HO317 := n2_; have HO321 := n3_; have HI303 := n4_; have BK314 := n5_; have HB := n6_; clear n0_ n1_ n2_ n3_ n4_ n5_ n6_; (try clear hb); (try clear hb2); (try clear hk); (try clear hi); (try clear ho0); obtain ⟨Ao95, co95, eo95⟩ := Kd.R_slice HO317.out; subst eo95) | ((with_reducible refine gate_callee (f := 15) rfl ?_); refine goesL_ (some 34) rfl rfl Try.func15 (by kernel_rfl) rfl #[.slice Ao95 t315.length co95, .int .i64 t304] rfl (by (try simp only [List.map_toArray, List.map_cons, List.map_nil]); first | done | rfl | (simp only [List.length_drop, List.length_take]; rfl)) ?_; (with_reducible refine (trustquorumref01_Meeting.calls k _ _ t315 t304 t323 t324 _ ?side1 ?side2 A7.out).mono ?_); (case side1 => repeat (first | exact (Kd.R_reads' HO317.out).2.2 | (with_reducible refine Kd.C_alloc ?_ _) | (with_reducible refine Kd.C_drewN ?_ _) | (with_reducible refine Kd.C_drew ?_))); (case side2 => exact (Kd.R_reads' HO317.out).2.1); rintro e w96 ⟨v325, rfl, ho0, hb⟩; refine ⟨_, rfl, ?_⟩; have n0_ := Aside0.mk (Kd.R_elder' (by (with_reducible repeat (first | apply Kd.R_alloc | apply Kd.R_drewN | apply Kd.R_drew)); exact HO309.out) (Kd.R_base ho0) hb); have n1_ := Aside0.mk (Kd.R_elder' (by (with_reducible repeat (first | apply Kd.R_alloc | apply Kd.R_drewN | apply Kd.R_drew)); exact HO312.out) (Kd.R_base ho0) hb); have n2_ := Aside0.mk (Kd.R_elder' (by (with_reducible repeat (first | apply Kd.R_alloc | apply Kd.R_drewN | apply Kd.R_drew)); exact HO317.out) (Kd.R_base ho0) hb); have n3_ := Aside0.mk (Kd.R_elder' (by (with_reducible repeat (first | apply Kd.R_alloc | apply Kd.R_drewN | apply Kd.R_drew)); exact HO321.out) (Kd.R_base ho0) hb); have n4_ := Aside0.mk (Kd.R_lower (Kd.R_new' (Kd.R_new' (Kd.R_new' ho0 (Kd.R_lt (by (with_reducible repeat (first | apply Kd.R_alloc | apply Kd.R_drewN | apply Kd.R_drew)); exact HO309.out))) (Kd.R_lt (by (with_reducible repeat (first | apply Kd.R_alloc | apply Kd.R_drewN | apply Kd.R_drew)); exact HO317.out))) (Kd.R_lt (by (with_reducible repeat (first | apply Kd.R_alloc | apply Kd.R_drewN | apply Kd.R_drew)); exact HO321.out))) (below_size (by repeat (first | (with_reducible first | exact HB.out | apply below_alloc | apply pw_below_drewN | apply below_drew1 | refine below_set ?_ (IsS44.ge HI303.out) | refine below_set ?_ GE314.out) | exact HB.out)))); have n5_ := Aside0.mk (IsS44.below (by repeat (first | (with_reducible first | exact HI303.out | apply IsS44.alloc | apply IsS44.drewN | apply IsS44.drew | apply IsS44.set_1 | refine IsS44.far ?_ NB303_314.out _) | exact HI303.out)) hb); have n6_ := Aside0.mk (blk_below (g := gb314) (o := .cells #[.int .i64 t306, .slice Ao90 t307.length co90, .slice Ao91 t310.length co91] 27 (0, 0)) (by (with_reducible repeat (first | refine blk_drewN ?_ _ | refine blk_drew ?_ | refine blk_alloc ?_ _)); exact BK314.out) hb); have n7_ := Aside0.mk (below_step (by repeat (first | (with_reducible first | exact HB.out | apply below_alloc | apply pw_below_drewN | apply below_drew1 | refine below_set ?_ (IsS44.ge HI303.out) | refine below_set ?_ GE314.out) | exact HB.out)) hb); clear HO309; clear HO312; clear HO317; clear HO321; clear HI303; clear BK314; clear HB; have HO309 := n0_; have HO312 := n1_; have HO317 := n2_; have HO321 := n3_; have HO326 := n4_; have HI303 := n5_; have BK314 := n6_; have HB := n7_; clear n0_ n1_ n2_ n3_ n4_ n5_ n6_ n7_; (try clear hb); (try clear hb2); (try clear hk); (try clear hi); (try clear ho0); obtain ⟨Ao97, co97, eo97⟩ := Kd.R_slice HO321.out; subst eo97) | ((with_reducible refine gate_callee (f := 15) rfl ?_); refine goesL_ (some 40) rfl rfl Try.func15 (by kernel_rfl) rfl #[.slice Ao97 t319.length co97, .int .i64 t304] rfl (by (try simp only [List.map_toArray, List.map_cons, List.map_nil]); first | done | rfl | (simp only [List.length_drop, List.length_take]; rfl)) ?_; (with_reducible refine (trustquorumref01_Meeting.calls k _ _ t319 t304 t327 t328 _ ?side1 ?side2 A8.out).mono ?_); (case side1 => repeat (first | exact (Kd.R_reads' HO321.out).2.2 | (with_reducible refine Kd.C_alloc ?_ _) | (with_reducible refine Kd.C_drewN ?_ _) | (with_reducible refine Kd.C_drew ?_))); (case side2 => exact (Kd.R_reads' HO321.out).2.1); rintro e w98 ⟨v329, rfl, ho0, hb⟩; refine ⟨_, rfl, ?_⟩; have n0_ := Aside0.mk (Kd.R_elder' (by (with_reducible repeat (first | apply Kd.R_alloc | apply Kd.R_drewN | apply Kd.R_drew)); exact HO309.out) (Kd.R_base ho0) hb); have n1_ := Aside0.mk (Kd.R_elder' (by (with_reducible repeat (first | apply Kd.R_alloc | apply Kd.R_drewN | apply Kd.R_drew)); exact HO312.out) (Kd.R_base ho0) hb); have n2_ := Aside0.mk (Kd.R_elder' (by (with_reducible repeat (first | apply Kd.R_alloc | apply Kd.R_drewN | apply Kd.R_drew)); exact HO317.out) (Kd.R_base ho0) hb); have n3_ := Aside0.mk (Kd.R_elder' (by (with_reducible repeat (first | apply Kd.R_alloc | apply Kd.R_drewN | apply Kd.R_drew)); exact HO321.out) (Kd.R_base ho0) hb); have n4_ := Aside0.mk (Kd.R_elder' (by (with_reducible repeat (first | apply Kd.R_alloc | apply Kd.R_drewN | apply Kd.R_drew)); exact HO326.out) (Kd.R_base ho0) hb); have n5_ := Aside0.mk (Kd.R_lower (Kd.R_new' (Kd.R_new' (Kd.R_new' (Kd.R_new' ho0 (Kd.R_lt (by (with_reducible repeat (first | apply Kd.R_alloc | apply Kd.R_drewN | apply Kd.R_drew)); exact HO309.out))) (Kd.R_lt (by (with_reducible repeat (first | apply Kd.R_alloc | apply Kd.R_drewN | apply Kd.R_drew)); exact HO317.out))) (Kd.R_lt (by (with_reducible repeat (first | apply Kd.R_alloc | apply Kd.R_drewN | apply Kd.R_drew)); exact HO321.out))) (Kd.R_lt (by (with_reducible repeat (first | apply Kd.R_alloc | apply Kd.R_drewN | apply Kd.R_drew)); exact HO326.out))) (below_size (by repeat (first | (with_reducible first | exact HB.out | apply below_alloc | apply pw_below_drewN | apply below_drew1 | refine below_set ?_ (IsS44.ge HI303.out) | refine below_set ?_ GE314.out) | exact HB.out)))); have n6_ := Aside0.mk (IsS44.below (by repeat (first | (with_reducible first | exact HI303.out | apply IsS44.alloc | apply IsS44.drewN | apply IsS44.drew | apply IsS44.set_1 | refine IsS44.far ?_ NB303_314.out _) | exact HI303.out)) hb); have n7_ := Aside0.mk (blk_below (g := gb314) (o := .cells #[.int .i64 t306, .slice Ao90 t307.length co90, .slice Ao91 t310.length co91] 27 (0, 0)) (by (with_reducible repeat (first | refine blk_drewN ?_ _ | refine blk_drew ?_ | refine blk_alloc ?_ _)); exact BK314.out) hb); have n8_ := Aside0.mk (below_step (by repeat (first | (with_reducible first | exact HB.out | apply below_alloc | apply pw_below_drewN | apply below_drew1 | refine below_set ?_ (IsS44.ge HI303.out) | refine below_set ?_ GE314.out) | exact HB.out)) hb); clear HO309; clear HO312; clear HO317; clear HO321; clear HO326; clear HI303; clear BK314; clear HB; have HO309 := n0_; have HO312 := n1_; have HO317 := n2_; have HO321 := n3_; have HO326 := n4_; have HO330 := n5_; have HI303 := n6_; have BK314 := n7_; have HB := n8_; clear n0_ n1_ n2_ n3_ n4_ n5_ n6_ n7_ n8_; (try clear hb); (try clear hb2); (try clear hk); (try clear hi); (try clear ho0)))
        go_ret
        exact ⟨by first | rfl | (simp [errW_none, errW_some] <;> rfl) | (simp [*, errW_none, errW_some] <;> rfl), by repeat (first | (with_reducible first | exact HB.out | apply below_alloc | apply pw_below_drewN | apply below_drew1 | refine below_set ?_ (IsS44.ge HI303.out) | refine below_set ?_ GE314.out) | exact HB.out)⟩
    · rw [if_neg c10] at H
      have c10b0 : (t322 == 0) = false := beq_eq_false_iff_ne.mpr c10
      have c10b1 : (t322 != 0) = true := bne_iff_ne.mpr c10
      obtain rfl := Option.some.inj H
      go_enter Try.func4, Try.ntmps4
      go_wp2_with (first | ((with_reducible refine gate_callee (f := 6) rfl ?_); refine goesL_ (some 15) rfl rfl Try.func6 (by kernel_rfl) rfl #[.slice A0 l0.length c0] rfl (by (try simp only [List.map_toArray, List.map_cons, List.map_nil]); first | done | rfl | (simp only [List.length_drop, List.length_take]; rfl)) ?_; (with_reducible refine (trustquorummake_New.calls _ _ l0 t301 t302 w _ ?side1 ?side2 ?side3 A2.out).mono ?_); (case side1 => repeat (first | (with_reducible first | exact HB.out | apply below_alloc | apply pw_below_drewN | apply below_drew1) | exact HB.out)); (case side2 => exact HR0.out); (case side3 => exact HC0.out); rintro e w99 ⟨g303, rfl, hi, hb, hb2⟩; refine ⟨_, rfl, ?_⟩; have n0_ := Aside0.mk (hb); have n1_ := Aside0.mk (hi); clear HB; have HB := n0_; have HI303 := n1_; clear n0_ n1_; (try clear hb); (try clear hb2); (try clear hk); (try clear hi)) | ((with_reducible refine gate_callee (f := 8) rfl ?_); refine goesL_ (some 17) rfl rfl Try.func8 (by kernel_rfl) rfl #[.pointer (some ⟨g303, 0, none⟩), .int .i64 1, .int .i64 8] rfl (by (try simp only [List.map_toArray, List.map_cons, List.map_nil]); first | done | rfl | (simp only [List.length_drop, List.length_take]; rfl)) ?_; (with_reducible refine (trustquorummake_Tape_Range.calls g303 t301 t302 1 8 t304 t305 w _ ?side1 ?side2 A3.out).mono ?_); (case side1 => repeat (first | (with_reducible first | exact HI303.out | apply IsS44.alloc | apply IsS44.drewN | apply IsS44.drew | apply IsS44.set_1) | exact HI303.out)); (case side2 => repeat (first | (with_reducible first | exact HB.out | apply below_alloc | apply pw_below_drewN | apply below_drew1 | refine below_set ?_ (IsS44.ge HI303.out)) | exact HB.out)); rintro e w100 ⟨rfl, hi, hb, hk⟩; refine ⟨_, rfl, ?_⟩; have n0_ := Aside0.mk (hb); have n1_ := Aside0.mk (hi); clear HB; clear HI303; have HB := n0_; have HI303 := n1_; clear n0_ n1_; (try clear hb); (try clear hb2); (try clear hk); (try clear hi)) | ((with_reducible refine gate_callee (f := 7) rfl ?_); refine goesL_ (some 20) rfl rfl Try.func7 (by kernel_rfl) rfl #[.pointer (some ⟨g303, 0, none⟩), .int .i64 t304, .int .i64 3] rfl (by (try simp only [List.map_toArray, List.map_cons, List.map_nil]); first | done | rfl | (simp only [List.length_drop, List.length_take]; rfl)) ?_; (with_reducible refine (trustquorummake_Trust.calls k g303 t301 t305 t304 3 t306 t307 t310 t313 w _ ?side1 ?side2 A4.out).mono ?_); (case side1 => repeat (first | (with_reducible first | exact HI303.out | apply IsS44.alloc | apply IsS44.drewN | apply IsS44.drew | apply IsS44.set_1) | exact HI303.out)); (case side2 => repeat (first | (with_reducible first | exact HB.out | apply below_alloc | apply pw_below_drewN | apply below_drew1 | refine below_set ?_ (IsS44.ge HI303.out)) | exact HB.out)); rintro e w101 ⟨v308, v311, rfl, ho0, ho1, hi, hb, hk⟩; refine ⟨_, rfl, ?_⟩; have n0_ := Aside0.mk (Kd.R_lower ho0 (below_size (by repeat (first | (with_reducible first | exact HB.out | apply below_alloc | apply pw_below_drewN | apply below_drew1 | refine below_set ?_ (IsS44.ge HI303.out)) | exact HB.out)))); have n1_ := Aside0.mk (Kd.R_lower ho1 (below_size (by repeat (first | (with_reducible first | exact HB.out | apply below_alloc | apply pw_below_drewN | apply below_drew1 | refine below_set ?_ (IsS44.ge HI303.out)) | exact HB.out)))); have n2_ := Aside0.mk (hb); have n3_ := Aside0.mk (hi); clear HB; clear HI303; have HO309 := n0_; have HO312 := n1_; have HB := n2_; have HI303 := n3_; clear n0_ n1_ n2_ n3_; (try clear hb); (try clear hb2); (try clear hk); (try clear hi); (try clear ho0); (try clear ho1)) | ((with_reducible refine gate_dst (N := 5) rfl ?_); refine box_event ?hg (N := 5) ?hd (cs := #[.int .i64 0, .slice none 0 0, .slice none 0 0]) (t := 27) ?hr ?_; (case hd => rfl); (case hg => rfl); (case hr => first | (go_simp; done) | (go_simp; rfl)); intro gb314 hg w102 hbox hb; have n0_ := Aside0.mk (Kd.R_below (by (with_reducible repeat (first | apply Kd.R_alloc | apply Kd.R_drewN | apply Kd.R_drew)); exact HO309.out) hb); have n1_ := Aside0.mk (Kd.R_below (Kd.R_elderB (by (with_reducible repeat (first | apply Kd.R_alloc | apply Kd.R_drewN | apply Kd.R_drew)); exact HO312.out) gb314 (Nat.le_of_eq hg.symm)) hb); have n2_ := Aside0.mk (IsS44.below (by repeat (first | (with_reducible first | exact HI303.out | apply IsS44.alloc | apply IsS44.drewN | apply IsS44.drew | apply IsS44.set_1) | exact HI303.out)) hb); have n3_ := Aside0.mk (below_step (by repeat (first | (with_reducible first | exact HB.out | apply below_alloc | apply pw_below_drewN | apply below_drew1 | refine below_set ?_ (IsS44.ge HI303.out)) | exact HB.out)) hb); have n4_ := Aside0.mk (hbox); have n5_ := Aside0.mk ((by rw [hg]; exact (below_size (by repeat (first | (with_reducible first | exact HB.out | apply below_alloc | apply pw_below_drewN | apply below_drew1 | refine below_set ?_ (IsS44.ge HI303.out)) | exact HB.out))) : w.heap.size ≤ gb314)); have n6_ := Aside0.mk ((by rw [hg]; exact (below_size (by repeat (first | (with_reducible first | exact HB.out | apply below_alloc | apply pw_below_drewN | apply below_drew1 | refine below_set ?_ (IsS44.ge HI303.out)) | exact HB.out))) : w.heap.size ≤ gb314)); have n7_ := Aside0.mk ((by rw [hg]; exact Nat.ne_of_lt (IsS44.lt (show IsS44 w _ g303 t301 t313 from by repeat (first | (with_reducible first | exact HI303.out | apply IsS44.alloc | apply IsS44.drewN | apply IsS44.drew | apply IsS44.set_1) | exact HI303.out))) : g303 ≠ gb314)); have n8_ := Aside0.mk ((by rw [hg]; exact Nat.ne_of_gt (IsS44.lt (show IsS44 w _ g303 t301 t313 from by repeat (first | (with_reducible first | exact HI303.out | apply IsS44.alloc | apply IsS44.drewN | apply IsS44.drew | apply IsS44.set_1) | exact HI303.out))) : gb314 ≠ g303)); clear HO309; clear HO312; clear HI303; clear HB; have HO309 := n0_; have HO312 := n1_; have HI303 := n2_; have HB := n3_; have BK314 := n4_; have GW314 := n5_; have GE314 := n6_; have NB303_314 := n7_; have NB314_303 := n8_; clear n0_ n1_ n2_ n3_ n4_ n5_ n6_ n7_ n8_; clear hb hbox hg; have hnb103 := NB314_303.out; have hnc103 := NB303_314.out; have hcz104_0 : w102.cell? ⟨gb314, 0, none⟩ = some (.int .i64 0) := (blk_cell BK314.out 0).trans rfl; have hcz104_1 : w102.cell? ⟨gb314, 1, none⟩ = some (.slice none 0 0) := (blk_cell BK314.out 1).trans rfl; have hcz104_2 : w102.cell? ⟨gb314, 2, none⟩ = some (.slice none 0 0) := (blk_cell BK314.out 2).trans rfl; have hfz104_0 := blk_frozen BK314.out 0; have hfz104_1 := blk_frozen BK314.out 1; have hfz104_2 := blk_frozen BK314.out 2; obtain ⟨Ao105, co105, eo105⟩ := Kd.R_slice HO309.out; subst eo105; obtain ⟨Ao106, co106, eo106⟩ := Kd.R_slice HO312.out; subst eo106) | ((with_reducible refine gate_callee (f := 9) rfl ?_); refine goesL_ (some 23) rfl rfl Try.func9 (by kernel_rfl) rfl #[.agg #[.int .i64 t306, .slice Ao105 t307.length co105, .slice Ao106 t310.length co106]] rfl (by (try simp only [List.map_toArray, List.map_cons, List.map_nil]); first | done | rfl | (simp only [List.length_drop, List.length_take]; rfl)) ?_; (with_reducible refine (slices_Slices.calls k t306 _ _ t307 _ _ t310 t315 t318 _ ?side1 ?side2 ?side3 ?side4 A5.out).mono ?_); (case side1 => refine (Kd.R_reads' (e := 3) (base := w.heap.size) (ok := fun k_ => True) (n := t307.length) (c := co105) ?_).2.2; exact (by (with_reducible repeat (first | apply Kd.R_alloc | apply Kd.R_drewN | apply Kd.R_drew)); exact (Kd.R_mono (Kd.R_far (p := ⟨gb314, 2, none⟩) (Kd.R_far (p := ⟨gb314, 1, none⟩) (Kd.R_far (p := ⟨gb314, 0, none⟩) (Kd.R_types HO309.out BK314.out (by decide)) (fun _ hk => hk.2) (.int .i64 t306)) (fun _ hk => hk.2) (.slice Ao105 t307.length co105)) (fun _ hk => hk.2) (.slice Ao106 t310.length co106)) (fun _ h_ => h_.1)))); (case side2 => exact (Kd.R_reads' HO309.out).2.1); (case side3 => refine (Kd.R_reads' (e := 27) (base := w.heap.size) (ok := fun k_ => (some k_ ≠ (.slice Ao105 t307.length co105 : Value).ownBlock ∧ k_ ≠ gb314)) (n := t310.length) (c := co106) ?_).2.2; exact (by (with_reducible repeat (first | apply Kd.R_alloc | apply Kd.R_drewN | apply Kd.R_drew)); exact (Kd.R_mono (Kd.R_far (p := ⟨gb314, 2, none⟩) (Kd.R_far (p := ⟨gb314, 1, none⟩) (Kd.R_far (p := ⟨gb314, 0, none⟩) (Kd.R_mono HO312.out (fun k_ hk => (⟨hk, hk.2⟩ : _ ∧ k_ ≠ gb314))) (fun _ hk => hk.2) (.int .i64 t306)) (fun _ hk => hk.2) (.slice Ao105 t307.length co105)) (fun _ hk => hk.2) (.slice Ao106 t310.length co106)) (fun _ h_ => h_.1)))); (case side4 => exact (Kd.R_reads' HO312.out).2.1); rintro e w107 ⟨v316, rfl, ho0, hb⟩; refine ⟨_, rfl, ?_⟩; have n0_ := Aside0.mk (Kd.R_elder' (by (with_reducible repeat (first | apply Kd.R_alloc | apply Kd.R_drewN | apply Kd.R_drew)); exact (Kd.R_mono (Kd.R_far (p := ⟨gb314, 2, none⟩) (Kd.R_far (p := ⟨gb314, 1, none⟩) (Kd.R_far (p := ⟨gb314, 0, none⟩) (Kd.R_types HO309.out BK314.out (by decide)) (fun _ hk => hk.2) (.int .i64 t306)) (fun _ hk => hk.2) (.slice Ao105 t307.length co105)) (fun _ hk => hk.2) (.slice Ao106 t310.length co106)) (fun _ h_ => h_.1))) (Kd.R_base ho0) hb); have n1_ := Aside0.mk (Kd.R_elder' (by (with_reducible repeat (first | apply Kd.R_alloc | apply Kd.R_drewN | apply Kd.R_drew)); exact (Kd.R_mono (Kd.R_far (p := ⟨gb314, 2, none⟩) (Kd.R_far (p := ⟨gb314, 1, none⟩) (Kd.R_far (p := ⟨gb314, 0, none⟩) (Kd.R_mono HO312.out (fun k_ hk => (⟨hk, hk.2⟩ : _ ∧ k_ ≠ gb314))) (fun _ hk => hk.2) (.int .i64 t306)) (fun _ hk => hk.2) (.slice Ao105 t307.length co105)) (fun _ hk => hk.2) (.slice Ao106 t310.length co106)) (fun _ h_ => h_.1))) (Kd.R_base ho0) hb); have n2_ := Aside0.mk (Kd.R_lower (Kd.R_new' ho0 (Kd.R_lt (by (with_reducible repeat (first | apply Kd.R_alloc | apply Kd.R_drewN | apply Kd.R_drew)); exact (Kd.R_mono (Kd.R_far (p := ⟨gb314, 2, none⟩) (Kd.R_far (p := ⟨gb314, 1, none⟩) (Kd.R_far (p := ⟨gb314, 0, none⟩) (Kd.R_types HO309.out BK314.out (by decide)) (fun _ hk => hk.2) (.int .i64 t306)) (fun _ hk => hk.2) (.slice Ao105 t307.length co105)) (fun _ hk => hk.2) (.slice Ao106 t310.length co106)) (fun _ h_ => h_.1))))) (below_size (by repeat (first | (with_reducible first | exact HB.out | apply below_alloc | apply pw_below_drewN | apply below_drew1 | refine below_set ?_ (IsS44.ge HI303.out) | refine below_set ?_ GE314.out) | exact HB.out)))); have n3_ := Aside0.mk (IsS44.below (show IsS44 w (((w102.setCell ⟨gb314, 0, none⟩ (.int .i64 t306)).setCell ⟨gb314, 1, none⟩ (.slice Ao105 t307.length co105)).setCell ⟨gb314, 2, none⟩ (.slice Ao106 t310.length co106)) g303 t301 t313 from by repeat (first | (with_reducible first | exact HI303.out | apply IsS44.alloc | apply IsS44.drewN | apply IsS44.drew | apply IsS44.set_1 | refine IsS44.far ?_ NB303_314.out _) | exact HI303.out)) hb); have n4_ := Aside0.mk (blk_below (g := gb314) (o := .cells #[.int .i64 t306, .slice Ao105 t307.length co105, .slice Ao106 t310.length co106] 27 (0, 0)) (by (with_reducible repeat (first | refine blk_drewN ?_ _ | refine blk_drew ?_ | refine blk_alloc ?_ _)); refine blk_put (cs := #[.int .i64 t306, .slice Ao105 t307.length co105, .slice none 0 0]) ?_ 2 _ rfl; (with_reducible repeat (first | refine blk_drewN ?_ _ | refine blk_drew ?_ | refine blk_alloc ?_ _)); refine blk_put (cs := #[.int .i64 t306, .slice none 0 0, .slice none 0 0]) ?_ 1 _ rfl; (with_reducible repeat (first | refine blk_drewN ?_ _ | refine blk_drew ?_ | refine blk_alloc ?_ _)); refine blk_put (cs := #[.int .i64 0, .slice none 0 0, .slice none 0 0]) ?_ 0 _ rfl; (with_reducible repeat (first | refine blk_drewN ?_ _ | refine blk_drew ?_ | refine blk_alloc ?_ _)); exact BK314.out) hb); have n5_ := Aside0.mk (below_step (by repeat (first | (with_reducible first | exact HB.out | apply below_alloc | apply pw_below_drewN | apply below_drew1 | refine below_set ?_ (IsS44.ge HI303.out) | refine below_set ?_ GE314.out) | exact HB.out)) hb); clear HO309; clear HO312; clear HI303; clear BK314; clear HB; have HO309 := n0_; have HO312 := n1_; have HO317 := n2_; have HI303 := n3_; have BK314 := n4_; have HB := n5_; clear n0_ n1_ n2_ n3_ n4_ n5_; (try clear hb); (try clear hb2); (try clear hk); (try clear hi); (try clear ho0); have hcz108_0 : w107.cell? ⟨gb314, 0, none⟩ = some (.int .i64 t306) := (blk_cell BK314.out 0).trans rfl; have hcz108_1 : w107.cell? ⟨gb314, 1, none⟩ = some (.slice Ao105 t307.length co105) := (blk_cell BK314.out 1).trans rfl; have hcz108_2 : w107.cell? ⟨gb314, 2, none⟩ = some (.slice Ao106 t310.length co106) := (blk_cell BK314.out 2).trans rfl; have hfz108_0 := blk_frozen BK314.out 0; have hfz108_1 := blk_frozen BK314.out 1; have hfz108_2 := blk_frozen BK314.out 2) | ((with_reducible refine gate_callee (f := 14) rfl ?_); refine goesL_ (some 28) rfl rfl Try.func14 (by kernel_rfl) rfl #[.agg #[.int .i64 t306, .slice Ao105 t307.length co105, .slice Ao106 t310.length co106]] rfl (by (try simp only [List.map_toArray, List.map_cons, List.map_nil]); first | done | rfl | (simp only [List.length_drop, List.length_take]; rfl)) ?_; (with_reducible refine (slices_Blocking.calls k t306 _ _ t307 _ _ t310 t319 t322 _ ?side1 ?side2 ?side3 ?side4 A6.out).mono ?_); (case side1 => repeat (first | exact (Kd.R_reads' HO309.out).2.2 | (with_reducible refine Kd.C_alloc ?_ _) | (with_reducible refine Kd.C_drewN ?_ _) | (with_reducible refine Kd.C_drew ?_))); (case side2 => exact (Kd.R_reads' HO309.out).2.1); (case side3 => repeat (first | exact (Kd.R_reads' HO312.out).2.2 | (with_reducible refine Kd.C_alloc ?_ _) | (with_reducible refine Kd.C_drewN ?_ _) | (with_reducible refine Kd.C_drew ?_))); (case side4 => exact (Kd.R_reads' HO312.out).2.1); rintro e w109 ⟨v320, rfl, ho0, hb⟩; refine ⟨_, rfl, ?_⟩; have n0_ := Aside0.mk (Kd.R_elder' (by (with_reducible repeat (first | apply Kd.R_alloc | apply Kd.R_drewN | apply Kd.R_drew)); exact HO309.out) (Kd.R_base ho0) hb); have n1_ := Aside0.mk (Kd.R_elder' (by (with_reducible repeat (first | apply Kd.R_alloc | apply Kd.R_drewN | apply Kd.R_drew)); exact HO312.out) (Kd.R_base ho0) hb); have n2_ := Aside0.mk (Kd.R_elder' (by (with_reducible repeat (first | apply Kd.R_alloc | apply Kd.R_drewN | apply Kd.R_drew)); exact HO317.out) (Kd.R_base ho0) hb); have n3_ := Aside0.mk (Kd.R_lower (Kd.R_new' (Kd.R_new' ho0 (Kd.R_lt (by (with_reducible repeat (first | apply Kd.R_alloc | apply Kd.R_drewN | apply Kd.R_drew)); exact HO309.out))) (Kd.R_lt (by (with_reducible repeat (first | apply Kd.R_alloc | apply Kd.R_drewN | apply Kd.R_drew)); exact HO317.out))) (below_size (by repeat (first | (with_reducible first | exact HB.out | apply below_alloc | apply pw_below_drewN | apply below_drew1 | refine below_set ?_ (IsS44.ge HI303.out) | refine below_set ?_ GE314.out) | exact HB.out)))); have n4_ := Aside0.mk (IsS44.below (by repeat (first | (with_reducible first | exact HI303.out | apply IsS44.alloc | apply IsS44.drewN | apply IsS44.drew | apply IsS44.set_1 | refine IsS44.far ?_ NB303_314.out _) | exact HI303.out)) hb); have n5_ := Aside0.mk (blk_below (g := gb314) (o := .cells #[.int .i64 t306, .slice Ao105 t307.length co105, .slice Ao106 t310.length co106] 27 (0, 0)) (by (with_reducible repeat (first | refine blk_drewN ?_ _ | refine blk_drew ?_ | refine blk_alloc ?_ _)); exact BK314.out) hb); have n6_ := Aside0.mk (below_step (by repeat (first | (with_reducible first | exact HB.out | apply below_alloc | apply pw_below_drewN | apply below_drew1 | refine below_set ?_ (IsS44.ge HI303.out) | refine below_set ?_ GE314.out) | exact HB.out)) hb); clear HO309; clear HO312; clear HO317; clear HI303; clear BK314; clear HB; have HO309 := n0_; have HO312 := n1_; have HO317 := n2_; have HO321 := n3_; have HI303 := n4_; have BK314 := n5_; have HB := n6_; clear n0_ n1_ n2_ n3_ n4_ n5_ n6_; (try clear hb); (try clear hb2); (try clear hk); (try clear hi); (try clear ho0); obtain ⟨Ao110, co110, eo110⟩ := Kd.R_slice HO317.out; subst eo110) | ((with_reducible refine gate_callee (f := 15) rfl ?_); refine goesL_ (some 34) rfl rfl Try.func15 (by kernel_rfl) rfl #[.slice Ao110 t315.length co110, .int .i64 t304] rfl (by (try simp only [List.map_toArray, List.map_cons, List.map_nil]); first | done | rfl | (simp only [List.length_drop, List.length_take]; rfl)) ?_; (with_reducible refine (trustquorumref01_Meeting.calls k _ _ t315 t304 t323 t324 _ ?side1 ?side2 A7.out).mono ?_); (case side1 => repeat (first | exact (Kd.R_reads' HO317.out).2.2 | (with_reducible refine Kd.C_alloc ?_ _) | (with_reducible refine Kd.C_drewN ?_ _) | (with_reducible refine Kd.C_drew ?_))); (case side2 => exact (Kd.R_reads' HO317.out).2.1); rintro e w111 ⟨v325, rfl, ho0, hb⟩; refine ⟨_, rfl, ?_⟩; have n0_ := Aside0.mk (Kd.R_elder' (by (with_reducible repeat (first | apply Kd.R_alloc | apply Kd.R_drewN | apply Kd.R_drew)); exact HO309.out) (Kd.R_base ho0) hb); have n1_ := Aside0.mk (Kd.R_elder' (by (with_reducible repeat (first | apply Kd.R_alloc | apply Kd.R_drewN | apply Kd.R_drew)); exact HO312.out) (Kd.R_base ho0) hb); have n2_ := Aside0.mk (Kd.R_elder' (by (with_reducible repeat (first | apply Kd.R_alloc | apply Kd.R_drewN | apply Kd.R_drew)); exact HO317.out) (Kd.R_base ho0) hb); have n3_ := Aside0.mk (Kd.R_elder' (by (with_reducible repeat (first | apply Kd.R_alloc | apply Kd.R_drewN | apply Kd.R_drew)); exact HO321.out) (Kd.R_base ho0) hb); have n4_ := Aside0.mk (Kd.R_lower (Kd.R_new' (Kd.R_new' (Kd.R_new' ho0 (Kd.R_lt (by (with_reducible repeat (first | apply Kd.R_alloc | apply Kd.R_drewN | apply Kd.R_drew)); exact HO309.out))) (Kd.R_lt (by (with_reducible repeat (first | apply Kd.R_alloc | apply Kd.R_drewN | apply Kd.R_drew)); exact HO317.out))) (Kd.R_lt (by (with_reducible repeat (first | apply Kd.R_alloc | apply Kd.R_drewN | apply Kd.R_drew)); exact HO321.out))) (below_size (by repeat (first | (with_reducible first | exact HB.out | apply below_alloc | apply pw_below_drewN | apply below_drew1 | refine below_set ?_ (IsS44.ge HI303.out) | refine below_set ?_ GE314.out) | exact HB.out)))); have n5_ := Aside0.mk (IsS44.below (by repeat (first | (with_reducible first | exact HI303.out | apply IsS44.alloc | apply IsS44.drewN | apply IsS44.drew | apply IsS44.set_1 | refine IsS44.far ?_ NB303_314.out _) | exact HI303.out)) hb); have n6_ := Aside0.mk (blk_below (g := gb314) (o := .cells #[.int .i64 t306, .slice Ao105 t307.length co105, .slice Ao106 t310.length co106] 27 (0, 0)) (by (with_reducible repeat (first | refine blk_drewN ?_ _ | refine blk_drew ?_ | refine blk_alloc ?_ _)); exact BK314.out) hb); have n7_ := Aside0.mk (below_step (by repeat (first | (with_reducible first | exact HB.out | apply below_alloc | apply pw_below_drewN | apply below_drew1 | refine below_set ?_ (IsS44.ge HI303.out) | refine below_set ?_ GE314.out) | exact HB.out)) hb); clear HO309; clear HO312; clear HO317; clear HO321; clear HI303; clear BK314; clear HB; have HO309 := n0_; have HO312 := n1_; have HO317 := n2_; have HO321 := n3_; have HO326 := n4_; have HI303 := n5_; have BK314 := n6_; have HB := n7_; clear n0_ n1_ n2_ n3_ n4_ n5_ n6_ n7_; (try clear hb); (try clear hb2); (try clear hk); (try clear hi); (try clear ho0); obtain ⟨Ao112, co112, eo112⟩ := Kd.R_slice HO321.out; subst eo112) | ((with_reducible refine gate_callee (f := 15) rfl ?_); refine goesL_ (some 40) rfl rfl Try.func15 (by kernel_rfl) rfl #[.slice Ao112 t319.length co112, .int .i64 t304] rfl (by (try simp only [List.map_toArray, List.map_cons, List.map_nil]); first | done | rfl | (simp only [List.length_drop, List.length_take]; rfl)) ?_; (with_reducible refine (trustquorumref01_Meeting.calls k _ _ t319 t304 t327 t328 _ ?side1 ?side2 A8.out).mono ?_); (case side1 => repeat (first | exact (Kd.R_reads' HO321.out).2.2 | (with_reducible refine Kd.C_alloc ?_ _) | (with_reducible refine Kd.C_drewN ?_ _) | (with_reducible refine Kd.C_drew ?_))); (case side2 => exact (Kd.R_reads' HO321.out).2.1); rintro e w113 ⟨v329, rfl, ho0, hb⟩; refine ⟨_, rfl, ?_⟩; have n0_ := Aside0.mk (Kd.R_elder' (by (with_reducible repeat (first | apply Kd.R_alloc | apply Kd.R_drewN | apply Kd.R_drew)); exact HO309.out) (Kd.R_base ho0) hb); have n1_ := Aside0.mk (Kd.R_elder' (by (with_reducible repeat (first | apply Kd.R_alloc | apply Kd.R_drewN | apply Kd.R_drew)); exact HO312.out) (Kd.R_base ho0) hb); have n2_ := Aside0.mk (Kd.R_elder' (by (with_reducible repeat (first | apply Kd.R_alloc | apply Kd.R_drewN | apply Kd.R_drew)); exact HO317.out) (Kd.R_base ho0) hb); have n3_ := Aside0.mk (Kd.R_elder' (by (with_reducible repeat (first | apply Kd.R_alloc | apply Kd.R_drewN | apply Kd.R_drew)); exact HO321.out) (Kd.R_base ho0) hb); have n4_ := Aside0.mk (Kd.R_elder' (by (with_reducible repeat (first | apply Kd.R_alloc | apply Kd.R_drewN | apply Kd.R_drew)); exact HO326.out) (Kd.R_base ho0) hb); have n5_ := Aside0.mk (Kd.R_lower (Kd.R_new' (Kd.R_new' (Kd.R_new' (Kd.R_new' ho0 (Kd.R_lt (by (with_reducible repeat (first | apply Kd.R_alloc | apply Kd.R_drewN | apply Kd.R_drew)); exact HO309.out))) (Kd.R_lt (by (with_reducible repeat (first | apply Kd.R_alloc | apply Kd.R_drewN | apply Kd.R_drew)); exact HO317.out))) (Kd.R_lt (by (with_reducible repeat (first | apply Kd.R_alloc | apply Kd.R_drewN | apply Kd.R_drew)); exact HO321.out))) (Kd.R_lt (by (with_reducible repeat (first | apply Kd.R_alloc | apply Kd.R_drewN | apply Kd.R_drew)); exact HO326.out))) (below_size (by repeat (first | (with_reducible first | exact HB.out | apply below_alloc | apply pw_below_drewN | apply below_drew1 | refine below_set ?_ (IsS44.ge HI303.out) | refine below_set ?_ GE314.out) | exact HB.out)))); have n6_ := Aside0.mk (IsS44.below (by repeat (first | (with_reducible first | exact HI303.out | apply IsS44.alloc | apply IsS44.drewN | apply IsS44.drew | apply IsS44.set_1 | refine IsS44.far ?_ NB303_314.out _) | exact HI303.out)) hb); have n7_ := Aside0.mk (blk_below (g := gb314) (o := .cells #[.int .i64 t306, .slice Ao105 t307.length co105, .slice Ao106 t310.length co106] 27 (0, 0)) (by (with_reducible repeat (first | refine blk_drewN ?_ _ | refine blk_drew ?_ | refine blk_alloc ?_ _)); exact BK314.out) hb); have n8_ := Aside0.mk (below_step (by repeat (first | (with_reducible first | exact HB.out | apply below_alloc | apply pw_below_drewN | apply below_drew1 | refine below_set ?_ (IsS44.ge HI303.out) | refine below_set ?_ GE314.out) | exact HB.out)) hb); clear HO309; clear HO312; clear HO317; clear HO321; clear HO326; clear HI303; clear BK314; clear HB; have HO309 := n0_; have HO312 := n1_; have HO317 := n2_; have HO321 := n3_; have HO326 := n4_; have HO330 := n5_; have HI303 := n6_; have BK314 := n7_; have HB := n8_; clear n0_ n1_ n2_ n3_ n4_ n5_ n6_ n7_ n8_; (try clear hb); (try clear hb2); (try clear hk); (try clear hi); (try clear ho0)))
      go_ret
      exact ⟨by first | rfl | (simp [errW_none, errW_some] <;> rfl) | (simp [*, errW_none, errW_some] <;> rfl), by repeat (first | (with_reducible first | exact HB.out | apply below_alloc | apply pw_below_drewN | apply below_drew1 | refine below_set ?_ (IsS44.ge HI303.out) | refine below_set ?_ GE314.out) | exact HB.out)⟩
  · rw [if_neg c9] at H
    have c9b0 : (t318 == 0) = false := beq_eq_false_iff_ne.mpr c9
    have c9b1 : (t318 != 0) = true := bne_iff_ne.mpr c9
    obtain rfl := Option.some.inj H
    go_enter Try.func4, Try.ntmps4
    go_wp2_with (first | ((with_reducible refine gate_callee (f := 6) rfl ?_); refine goesL_ (some 15) rfl rfl Try.func6 (by kernel_rfl) rfl #[.slice A0 l0.length c0] rfl (by (try simp only [List.map_toArray, List.map_cons, List.map_nil]); first | done | rfl | (simp only [List.length_drop, List.length_take]; rfl)) ?_; (with_reducible refine (trustquorummake_New.calls _ _ l0 t301 t302 w _ ?side1 ?side2 ?side3 A2.out).mono ?_); (case side1 => repeat (first | (with_reducible first | exact HB.out | apply below_alloc | apply pw_below_drewN | apply below_drew1) | exact HB.out)); (case side2 => exact HR0.out); (case side3 => exact HC0.out); rintro e w114 ⟨g303, rfl, hi, hb, hb2⟩; refine ⟨_, rfl, ?_⟩; have n0_ := Aside0.mk (hb); have n1_ := Aside0.mk (hi); clear HB; have HB := n0_; have HI303 := n1_; clear n0_ n1_; (try clear hb); (try clear hb2); (try clear hk); (try clear hi)) | ((with_reducible refine gate_callee (f := 8) rfl ?_); refine goesL_ (some 17) rfl rfl Try.func8 (by kernel_rfl) rfl #[.pointer (some ⟨g303, 0, none⟩), .int .i64 1, .int .i64 8] rfl (by (try simp only [List.map_toArray, List.map_cons, List.map_nil]); first | done | rfl | (simp only [List.length_drop, List.length_take]; rfl)) ?_; (with_reducible refine (trustquorummake_Tape_Range.calls g303 t301 t302 1 8 t304 t305 w _ ?side1 ?side2 A3.out).mono ?_); (case side1 => repeat (first | (with_reducible first | exact HI303.out | apply IsS44.alloc | apply IsS44.drewN | apply IsS44.drew | apply IsS44.set_1) | exact HI303.out)); (case side2 => repeat (first | (with_reducible first | exact HB.out | apply below_alloc | apply pw_below_drewN | apply below_drew1 | refine below_set ?_ (IsS44.ge HI303.out)) | exact HB.out)); rintro e w115 ⟨rfl, hi, hb, hk⟩; refine ⟨_, rfl, ?_⟩; have n0_ := Aside0.mk (hb); have n1_ := Aside0.mk (hi); clear HB; clear HI303; have HB := n0_; have HI303 := n1_; clear n0_ n1_; (try clear hb); (try clear hb2); (try clear hk); (try clear hi)) | ((with_reducible refine gate_callee (f := 7) rfl ?_); refine goesL_ (some 20) rfl rfl Try.func7 (by kernel_rfl) rfl #[.pointer (some ⟨g303, 0, none⟩), .int .i64 t304, .int .i64 3] rfl (by (try simp only [List.map_toArray, List.map_cons, List.map_nil]); first | done | rfl | (simp only [List.length_drop, List.length_take]; rfl)) ?_; (with_reducible refine (trustquorummake_Trust.calls k g303 t301 t305 t304 3 t306 t307 t310 t313 w _ ?side1 ?side2 A4.out).mono ?_); (case side1 => repeat (first | (with_reducible first | exact HI303.out | apply IsS44.alloc | apply IsS44.drewN | apply IsS44.drew | apply IsS44.set_1) | exact HI303.out)); (case side2 => repeat (first | (with_reducible first | exact HB.out | apply below_alloc | apply pw_below_drewN | apply below_drew1 | refine below_set ?_ (IsS44.ge HI303.out)) | exact HB.out)); rintro e w116 ⟨v308, v311, rfl, ho0, ho1, hi, hb, hk⟩; refine ⟨_, rfl, ?_⟩; have n0_ := Aside0.mk (Kd.R_lower ho0 (below_size (by repeat (first | (with_reducible first | exact HB.out | apply below_alloc | apply pw_below_drewN | apply below_drew1 | refine below_set ?_ (IsS44.ge HI303.out)) | exact HB.out)))); have n1_ := Aside0.mk (Kd.R_lower ho1 (below_size (by repeat (first | (with_reducible first | exact HB.out | apply below_alloc | apply pw_below_drewN | apply below_drew1 | refine below_set ?_ (IsS44.ge HI303.out)) | exact HB.out)))); have n2_ := Aside0.mk (hb); have n3_ := Aside0.mk (hi); clear HB; clear HI303; have HO309 := n0_; have HO312 := n1_; have HB := n2_; have HI303 := n3_; clear n0_ n1_ n2_ n3_; (try clear hb); (try clear hb2); (try clear hk); (try clear hi); (try clear ho0); (try clear ho1)) | ((with_reducible refine gate_dst (N := 5) rfl ?_); refine box_event ?hg (N := 5) ?hd (cs := #[.int .i64 0, .slice none 0 0, .slice none 0 0]) (t := 27) ?hr ?_; (case hd => rfl); (case hg => rfl); (case hr => first | (go_simp; done) | (go_simp; rfl)); intro gb314 hg w117 hbox hb; have n0_ := Aside0.mk (Kd.R_below (by (with_reducible repeat (first | apply Kd.R_alloc | apply Kd.R_drewN | apply Kd.R_drew)); exact HO309.out) hb); have n1_ := Aside0.mk (Kd.R_below (Kd.R_elderB (by (with_reducible repeat (first | apply Kd.R_alloc | apply Kd.R_drewN | apply Kd.R_drew)); exact HO312.out) gb314 (Nat.le_of_eq hg.symm)) hb); have n2_ := Aside0.mk (IsS44.below (by repeat (first | (with_reducible first | exact HI303.out | apply IsS44.alloc | apply IsS44.drewN | apply IsS44.drew | apply IsS44.set_1) | exact HI303.out)) hb); have n3_ := Aside0.mk (below_step (by repeat (first | (with_reducible first | exact HB.out | apply below_alloc | apply pw_below_drewN | apply below_drew1 | refine below_set ?_ (IsS44.ge HI303.out)) | exact HB.out)) hb); have n4_ := Aside0.mk (hbox); have n5_ := Aside0.mk ((by rw [hg]; exact (below_size (by repeat (first | (with_reducible first | exact HB.out | apply below_alloc | apply pw_below_drewN | apply below_drew1 | refine below_set ?_ (IsS44.ge HI303.out)) | exact HB.out))) : w.heap.size ≤ gb314)); have n6_ := Aside0.mk ((by rw [hg]; exact (below_size (by repeat (first | (with_reducible first | exact HB.out | apply below_alloc | apply pw_below_drewN | apply below_drew1 | refine below_set ?_ (IsS44.ge HI303.out)) | exact HB.out))) : w.heap.size ≤ gb314)); have n7_ := Aside0.mk ((by rw [hg]; exact Nat.ne_of_lt (IsS44.lt (show IsS44 w _ g303 t301 t313 from by repeat (first | (with_reducible first | exact HI303.out | apply IsS44.alloc | apply IsS44.drewN | apply IsS44.drew | apply IsS44.set_1) | exact HI303.out))) : g303 ≠ gb314)); have n8_ := Aside0.mk ((by rw [hg]; exact Nat.ne_of_gt (IsS44.lt (show IsS44 w _ g303 t301 t313 from by repeat (first | (with_reducible first | exact HI303.out | apply IsS44.alloc | apply IsS44.drewN | apply IsS44.drew | apply IsS44.set_1) | exact HI303.out))) : gb314 ≠ g303)); clear HO309; clear HO312; clear HI303; clear HB; have HO309 := n0_; have HO312 := n1_; have HI303 := n2_; have HB := n3_; have BK314 := n4_; have GW314 := n5_; have GE314 := n6_; have NB303_314 := n7_; have NB314_303 := n8_; clear n0_ n1_ n2_ n3_ n4_ n5_ n6_ n7_ n8_; clear hb hbox hg; have hnb118 := NB314_303.out; have hnc118 := NB303_314.out; have hcz119_0 : w117.cell? ⟨gb314, 0, none⟩ = some (.int .i64 0) := (blk_cell BK314.out 0).trans rfl; have hcz119_1 : w117.cell? ⟨gb314, 1, none⟩ = some (.slice none 0 0) := (blk_cell BK314.out 1).trans rfl; have hcz119_2 : w117.cell? ⟨gb314, 2, none⟩ = some (.slice none 0 0) := (blk_cell BK314.out 2).trans rfl; have hfz119_0 := blk_frozen BK314.out 0; have hfz119_1 := blk_frozen BK314.out 1; have hfz119_2 := blk_frozen BK314.out 2; obtain ⟨Ao120, co120, eo120⟩ := Kd.R_slice HO309.out; subst eo120; obtain ⟨Ao121, co121, eo121⟩ := Kd.R_slice HO312.out; subst eo121) | ((with_reducible refine gate_callee (f := 9) rfl ?_); refine goesL_ (some 23) rfl rfl Try.func9 (by kernel_rfl) rfl #[.agg #[.int .i64 t306, .slice Ao120 t307.length co120, .slice Ao121 t310.length co121]] rfl (by (try simp only [List.map_toArray, List.map_cons, List.map_nil]); first | done | rfl | (simp only [List.length_drop, List.length_take]; rfl)) ?_; (with_reducible refine (slices_Slices.calls k t306 _ _ t307 _ _ t310 t315 t318 _ ?side1 ?side2 ?side3 ?side4 A5.out).mono ?_); (case side1 => refine (Kd.R_reads' (e := 3) (base := w.heap.size) (ok := fun k_ => True) (n := t307.length) (c := co120) ?_).2.2; exact (by (with_reducible repeat (first | apply Kd.R_alloc | apply Kd.R_drewN | apply Kd.R_drew)); exact (Kd.R_mono (Kd.R_far (p := ⟨gb314, 2, none⟩) (Kd.R_far (p := ⟨gb314, 1, none⟩) (Kd.R_far (p := ⟨gb314, 0, none⟩) (Kd.R_types HO309.out BK314.out (by decide)) (fun _ hk => hk.2) (.int .i64 t306)) (fun _ hk => hk.2) (.slice Ao120 t307.length co120)) (fun _ hk => hk.2) (.slice Ao121 t310.length co121)) (fun _ h_ => h_.1)))); (case side2 => exact (Kd.R_reads' HO309.out).2.1); (case side3 => refine (Kd.R_reads' (e := 27) (base := w.heap.size) (ok := fun k_ => (some k_ ≠ (.slice Ao120 t307.length co120 : Value).ownBlock ∧ k_ ≠ gb314)) (n := t310.length) (c := co121) ?_).2.2; exact (by (with_reducible repeat (first | apply Kd.R_alloc | apply Kd.R_drewN | apply Kd.R_drew)); exact (Kd.R_mono (Kd.R_far (p := ⟨gb314, 2, none⟩) (Kd.R_far (p := ⟨gb314, 1, none⟩) (Kd.R_far (p := ⟨gb314, 0, none⟩) (Kd.R_mono HO312.out (fun k_ hk => (⟨hk, hk.2⟩ : _ ∧ k_ ≠ gb314))) (fun _ hk => hk.2) (.int .i64 t306)) (fun _ hk => hk.2) (.slice Ao120 t307.length co120)) (fun _ hk => hk.2) (.slice Ao121 t310.length co121)) (fun _ h_ => h_.1)))); (case side4 => exact (Kd.R_reads' HO312.out).2.1); rintro e w122 ⟨v316, rfl, ho0, hb⟩; refine ⟨_, rfl, ?_⟩; have n0_ := Aside0.mk (Kd.R_elder' (by (with_reducible repeat (first | apply Kd.R_alloc | apply Kd.R_drewN | apply Kd.R_drew)); exact (Kd.R_mono (Kd.R_far (p := ⟨gb314, 2, none⟩) (Kd.R_far (p := ⟨gb314, 1, none⟩) (Kd.R_far (p := ⟨gb314, 0, none⟩) (Kd.R_types HO309.out BK314.out (by decide)) (fun _ hk => hk.2) (.int .i64 t306)) (fun _ hk => hk.2) (.slice Ao120 t307.length co120)) (fun _ hk => hk.2) (.slice Ao121 t310.length co121)) (fun _ h_ => h_.1))) (Kd.R_base ho0) hb); have n1_ := Aside0.mk (Kd.R_elder' (by (with_reducible repeat (first | apply Kd.R_alloc | apply Kd.R_drewN | apply Kd.R_drew)); exact (Kd.R_mono (Kd.R_far (p := ⟨gb314, 2, none⟩) (Kd.R_far (p := ⟨gb314, 1, none⟩) (Kd.R_far (p := ⟨gb314, 0, none⟩) (Kd.R_mono HO312.out (fun k_ hk => (⟨hk, hk.2⟩ : _ ∧ k_ ≠ gb314))) (fun _ hk => hk.2) (.int .i64 t306)) (fun _ hk => hk.2) (.slice Ao120 t307.length co120)) (fun _ hk => hk.2) (.slice Ao121 t310.length co121)) (fun _ h_ => h_.1))) (Kd.R_base ho0) hb); have n2_ := Aside0.mk (Kd.R_lower (Kd.R_new' ho0 (Kd.R_lt (by (with_reducible repeat (first | apply Kd.R_alloc | apply Kd.R_drewN | apply Kd.R_drew)); exact (Kd.R_mono (Kd.R_far (p := ⟨gb314, 2, none⟩) (Kd.R_far (p := ⟨gb314, 1, none⟩) (Kd.R_far (p := ⟨gb314, 0, none⟩) (Kd.R_types HO309.out BK314.out (by decide)) (fun _ hk => hk.2) (.int .i64 t306)) (fun _ hk => hk.2) (.slice Ao120 t307.length co120)) (fun _ hk => hk.2) (.slice Ao121 t310.length co121)) (fun _ h_ => h_.1))))) (below_size (by repeat (first | (with_reducible first | exact HB.out | apply below_alloc | apply pw_below_drewN | apply below_drew1 | refine below_set ?_ (IsS44.ge HI303.out) | refine below_set ?_ GE314.out) | exact HB.out)))); have n3_ := Aside0.mk (IsS44.below (show IsS44 w (((w117.setCell ⟨gb314, 0, none⟩ (.int .i64 t306)).setCell ⟨gb314, 1, none⟩ (.slice Ao120 t307.length co120)).setCell ⟨gb314, 2, none⟩ (.slice Ao121 t310.length co121)) g303 t301 t313 from by repeat (first | (with_reducible first | exact HI303.out | apply IsS44.alloc | apply IsS44.drewN | apply IsS44.drew | apply IsS44.set_1 | refine IsS44.far ?_ NB303_314.out _) | exact HI303.out)) hb); have n4_ := Aside0.mk (blk_below (g := gb314) (o := .cells #[.int .i64 t306, .slice Ao120 t307.length co120, .slice Ao121 t310.length co121] 27 (0, 0)) (by (with_reducible repeat (first | refine blk_drewN ?_ _ | refine blk_drew ?_ | refine blk_alloc ?_ _)); refine blk_put (cs := #[.int .i64 t306, .slice Ao120 t307.length co120, .slice none 0 0]) ?_ 2 _ rfl; (with_reducible repeat (first | refine blk_drewN ?_ _ | refine blk_drew ?_ | refine blk_alloc ?_ _)); refine blk_put (cs := #[.int .i64 t306, .slice none 0 0, .slice none 0 0]) ?_ 1 _ rfl; (with_reducible repeat (first | refine blk_drewN ?_ _ | refine blk_drew ?_ | refine blk_alloc ?_ _)); refine blk_put (cs := #[.int .i64 0, .slice none 0 0, .slice none 0 0]) ?_ 0 _ rfl; (with_reducible repeat (first | refine blk_drewN ?_ _ | refine blk_drew ?_ | refine blk_alloc ?_ _)); exact BK314.out) hb); have n5_ := Aside0.mk (below_step (by repeat (first | (with_reducible first | exact HB.out | apply below_alloc | apply pw_below_drewN | apply below_drew1 | refine below_set ?_ (IsS44.ge HI303.out) | refine below_set ?_ GE314.out) | exact HB.out)) hb); clear HO309; clear HO312; clear HI303; clear BK314; clear HB; have HO309 := n0_; have HO312 := n1_; have HO317 := n2_; have HI303 := n3_; have BK314 := n4_; have HB := n5_; clear n0_ n1_ n2_ n3_ n4_ n5_; (try clear hb); (try clear hb2); (try clear hk); (try clear hi); (try clear ho0); have hcz123_0 : w122.cell? ⟨gb314, 0, none⟩ = some (.int .i64 t306) := (blk_cell BK314.out 0).trans rfl; have hcz123_1 : w122.cell? ⟨gb314, 1, none⟩ = some (.slice Ao120 t307.length co120) := (blk_cell BK314.out 1).trans rfl; have hcz123_2 : w122.cell? ⟨gb314, 2, none⟩ = some (.slice Ao121 t310.length co121) := (blk_cell BK314.out 2).trans rfl; have hfz123_0 := blk_frozen BK314.out 0; have hfz123_1 := blk_frozen BK314.out 1; have hfz123_2 := blk_frozen BK314.out 2) | ((with_reducible refine gate_callee (f := 14) rfl ?_); refine goesL_ (some 28) rfl rfl Try.func14 (by kernel_rfl) rfl #[.agg #[.int .i64 t306, .slice Ao120 t307.length co120, .slice Ao121 t310.length co121]] rfl (by (try simp only [List.map_toArray, List.map_cons, List.map_nil]); first | done | rfl | (simp only [List.length_drop, List.length_take]; rfl)) ?_; (with_reducible refine (slices_Blocking.calls k t306 _ _ t307 _ _ t310 t319 t322 _ ?side1 ?side2 ?side3 ?side4 A6.out).mono ?_); (case side1 => repeat (first | exact (Kd.R_reads' HO309.out).2.2 | (with_reducible refine Kd.C_alloc ?_ _) | (with_reducible refine Kd.C_drewN ?_ _) | (with_reducible refine Kd.C_drew ?_))); (case side2 => exact (Kd.R_reads' HO309.out).2.1); (case side3 => repeat (first | exact (Kd.R_reads' HO312.out).2.2 | (with_reducible refine Kd.C_alloc ?_ _) | (with_reducible refine Kd.C_drewN ?_ _) | (with_reducible refine Kd.C_drew ?_))); (case side4 => exact (Kd.R_reads' HO312.out).2.1); rintro e w124 ⟨v320, rfl, ho0, hb⟩; refine ⟨_, rfl, ?_⟩; have n0_ := Aside0.mk (Kd.R_elder' (by (with_reducible repeat (first | apply Kd.R_alloc | apply Kd.R_drewN | apply Kd.R_drew)); exact HO309.out) (Kd.R_base ho0) hb); have n1_ := Aside0.mk (Kd.R_elder' (by (with_reducible repeat (first | apply Kd.R_alloc | apply Kd.R_drewN | apply Kd.R_drew)); exact HO312.out) (Kd.R_base ho0) hb); have n2_ := Aside0.mk (Kd.R_elder' (by (with_reducible repeat (first | apply Kd.R_alloc | apply Kd.R_drewN | apply Kd.R_drew)); exact HO317.out) (Kd.R_base ho0) hb); have n3_ := Aside0.mk (Kd.R_lower (Kd.R_new' (Kd.R_new' ho0 (Kd.R_lt (by (with_reducible repeat (first | apply Kd.R_alloc | apply Kd.R_drewN | apply Kd.R_drew)); exact HO309.out))) (Kd.R_lt (by (with_reducible repeat (first | apply Kd.R_alloc | apply Kd.R_drewN | apply Kd.R_drew)); exact HO317.out))) (below_size (by repeat (first | (with_reducible first | exact HB.out | apply below_alloc | apply pw_below_drewN | apply below_drew1 | refine below_set ?_ (IsS44.ge HI303.out) | refine below_set ?_ GE314.out) | exact HB.out)))); have n4_ := Aside0.mk (IsS44.below (by repeat (first | (with_reducible first | exact HI303.out | apply IsS44.alloc | apply IsS44.drewN | apply IsS44.drew | apply IsS44.set_1 | refine IsS44.far ?_ NB303_314.out _) | exact HI303.out)) hb); have n5_ := Aside0.mk (blk_below (g := gb314) (o := .cells #[.int .i64 t306, .slice Ao120 t307.length co120, .slice Ao121 t310.length co121] 27 (0, 0)) (by (with_reducible repeat (first | refine blk_drewN ?_ _ | refine blk_drew ?_ | refine blk_alloc ?_ _)); exact BK314.out) hb); have n6_ := Aside0.mk (below_step (by repeat (first | (with_reducible first | exact HB.out | apply below_alloc | apply pw_below_drewN | apply below_drew1 | refine below_set ?_ (IsS44.ge HI303.out) | refine below_set ?_ GE314.out) | exact HB.out)) hb); clear HO309; clear HO312; clear HO317; clear HI303; clear BK314; clear HB; have HO309 := n0_; have HO312 := n1_; have HO317 := n2_; have HO321 := n3_; have HI303 := n4_; have BK314 := n5_; have HB := n6_; clear n0_ n1_ n2_ n3_ n4_ n5_ n6_; (try clear hb); (try clear hb2); (try clear hk); (try clear hi); (try clear ho0); obtain ⟨Ao125, co125, eo125⟩ := Kd.R_slice HO317.out; subst eo125) | ((with_reducible refine gate_callee (f := 15) rfl ?_); refine goesL_ (some 34) rfl rfl Try.func15 (by kernel_rfl) rfl #[.slice Ao125 t315.length co125, .int .i64 t304] rfl (by (try simp only [List.map_toArray, List.map_cons, List.map_nil]); first | done | rfl | (simp only [List.length_drop, List.length_take]; rfl)) ?_; (with_reducible refine (trustquorumref01_Meeting.calls k _ _ t315 t304 t323 t324 _ ?side1 ?side2 A7.out).mono ?_); (case side1 => repeat (first | exact (Kd.R_reads' HO317.out).2.2 | (with_reducible refine Kd.C_alloc ?_ _) | (with_reducible refine Kd.C_drewN ?_ _) | (with_reducible refine Kd.C_drew ?_))); (case side2 => exact (Kd.R_reads' HO317.out).2.1); rintro e w126 ⟨v325, rfl, ho0, hb⟩; refine ⟨_, rfl, ?_⟩; have n0_ := Aside0.mk (Kd.R_elder' (by (with_reducible repeat (first | apply Kd.R_alloc | apply Kd.R_drewN | apply Kd.R_drew)); exact HO309.out) (Kd.R_base ho0) hb); have n1_ := Aside0.mk (Kd.R_elder' (by (with_reducible repeat (first | apply Kd.R_alloc | apply Kd.R_drewN | apply Kd.R_drew)); exact HO312.out) (Kd.R_base ho0) hb); have n2_ := Aside0.mk (Kd.R_elder' (by (with_reducible repeat (first | apply Kd.R_alloc | apply Kd.R_drewN | apply Kd.R_drew)); exact HO317.out) (Kd.R_base ho0) hb); have n3_ := Aside0.mk (Kd.R_elder' (by (with_reducible repeat (first | apply Kd.R_alloc | apply Kd.R_drewN | apply Kd.R_drew)); exact HO321.out) (Kd.R_base ho0) hb); have n4_ := Aside0.mk (Kd.R_lower (Kd.R_new' (Kd.R_new' (Kd.R_new' ho0 (Kd.R_lt (by (with_reducible repeat (first | apply Kd.R_alloc | apply Kd.R_drewN | apply Kd.R_drew)); exact HO309.out))) (Kd.R_lt (by (with_reducible repeat (first | apply Kd.R_alloc | apply Kd.R_drewN | apply Kd.R_drew)); exact HO317.out))) (Kd.R_lt (by (with_reducible repeat (first | apply Kd.R_alloc | apply Kd.R_drewN | apply Kd.R_drew)); exact HO321.out))) (below_size (by repeat (first | (with_reducible first | exact HB.out | apply below_alloc | apply pw_below_drewN | apply below_drew1 | refine below_set ?_ (IsS44.ge HI303.out) | refine below_set ?_ GE314.out) | exact HB.out)))); have n5_ := Aside0.mk (IsS44.below (by repeat (first | (with_reducible first | exact HI303.out | apply IsS44.alloc | apply IsS44.drewN | apply IsS44.drew | apply IsS44.set_1 | refine IsS44.far ?_ NB303_314.out _) | exact HI303.out)) hb); have n6_ := Aside0.mk (blk_below (g := gb314) (o := .cells #[.int .i64 t306, .slice Ao120 t307.length co120, .slice Ao121 t310.length co121] 27 (0, 0)) (by (with_reducible repeat (first | refine blk_drewN ?_ _ | refine blk_drew ?_ | refine blk_alloc ?_ _)); exact BK314.out) hb); have n7_ := Aside0.mk (below_step (by repeat (first | (with_reducible first | exact HB.out | apply below_alloc | apply pw_below_drewN | apply below_drew1 | refine below_set ?_ (IsS44.ge HI303.out) | refine below_set ?_ GE314.out) | exact HB.out)) hb); clear HO309; clear HO312; clear HO317; clear HO321; clear HI303; clear BK314; clear HB; have HO309 := n0_; have HO312 := n1_; have HO317 := n2_; have HO321 := n3_; have HO326 := n4_; have HI303 := n5_; have BK314 := n6_; have HB := n7_; clear n0_ n1_ n2_ n3_ n4_ n5_ n6_ n7_; (try clear hb); (try clear hb2); (try clear hk); (try clear hi); (try clear ho0); obtain ⟨Ao127, co127, eo127⟩ := Kd.R_slice HO321.out; subst eo127) | ((with_reducible refine gate_callee (f := 15) rfl ?_); refine goesL_ (some 40) rfl rfl Try.func15 (by kernel_rfl) rfl #[.slice Ao127 t319.length co127, .int .i64 t304] rfl (by (try simp only [List.map_toArray, List.map_cons, List.map_nil]); first | done | rfl | (simp only [List.length_drop, List.length_take]; rfl)) ?_; (with_reducible refine (trustquorumref01_Meeting.calls k _ _ t319 t304 t327 t328 _ ?side1 ?side2 A8.out).mono ?_); (case side1 => repeat (first | exact (Kd.R_reads' HO321.out).2.2 | (with_reducible refine Kd.C_alloc ?_ _) | (with_reducible refine Kd.C_drewN ?_ _) | (with_reducible refine Kd.C_drew ?_))); (case side2 => exact (Kd.R_reads' HO321.out).2.1); rintro e w128 ⟨v329, rfl, ho0, hb⟩; refine ⟨_, rfl, ?_⟩; have n0_ := Aside0.mk (Kd.R_elder' (by (with_reducible repeat (first | apply Kd.R_alloc | apply Kd.R_drewN | apply Kd.R_drew)); exact HO309.out) (Kd.R_base ho0) hb); have n1_ := Aside0.mk (Kd.R_elder' (by (with_reducible repeat (first | apply Kd.R_alloc | apply Kd.R_drewN | apply Kd.R_drew)); exact HO312.out) (Kd.R_base ho0) hb); have n2_ := Aside0.mk (Kd.R_elder' (by (with_reducible repeat (first | apply Kd.R_alloc | apply Kd.R_drewN | apply Kd.R_drew)); exact HO317.out) (Kd.R_base ho0) hb); have n3_ := Aside0.mk (Kd.R_elder' (by (with_reducible repeat (first | apply Kd.R_alloc | apply Kd.R_drewN | apply Kd.R_drew)); exact HO321.out) (Kd.R_base ho0) hb); have n4_ := Aside0.mk (Kd.R_elder' (by (with_reducible repeat (first | apply Kd.R_alloc | apply Kd.R_drewN | apply Kd.R_drew)); exact HO326.out) (Kd.R_base ho0) hb); have n5_ := Aside0.mk (Kd.R_lower (Kd.R_new' (Kd.R_new' (Kd.R_new' (Kd.R_new' ho0 (Kd.R_lt (by (with_reducible repeat (first | apply Kd.R_alloc | apply Kd.R_drewN | apply Kd.R_drew)); exact HO309.out))) (Kd.R_lt (by (with_reducible repeat (first | apply Kd.R_alloc | apply Kd.R_drewN | apply Kd.R_drew)); exact HO317.out))) (Kd.R_lt (by (with_reducible repeat (first | apply Kd.R_alloc | apply Kd.R_drewN | apply Kd.R_drew)); exact HO321.out))) (Kd.R_lt (by (with_reducible repeat (first | apply Kd.R_alloc | apply Kd.R_drewN | apply Kd.R_drew)); exact HO326.out))) (below_size (by repeat (first | (with_reducible first | exact HB.out | apply below_alloc | apply pw_below_drewN | apply below_drew1 | refine below_set ?_ (IsS44.ge HI303.out) | refine below_set ?_ GE314.out) | exact HB.out)))); have n6_ := Aside0.mk (IsS44.below (by repeat (first | (with_reducible first | exact HI303.out | apply IsS44.alloc | apply IsS44.drewN | apply IsS44.drew | apply IsS44.set_1 | refine IsS44.far ?_ NB303_314.out _) | exact HI303.out)) hb); have n7_ := Aside0.mk (blk_below (g := gb314) (o := .cells #[.int .i64 t306, .slice Ao120 t307.length co120, .slice Ao121 t310.length co121] 27 (0, 0)) (by (with_reducible repeat (first | refine blk_drewN ?_ _ | refine blk_drew ?_ | refine blk_alloc ?_ _)); exact BK314.out) hb); have n8_ := Aside0.mk (below_step (by repeat (first | (with_reducible first | exact HB.out | apply below_alloc | apply pw_below_drewN | apply below_drew1 | refine below_set ?_ (IsS44.ge HI303.out) | refine below_set ?_ GE314.out) | exact HB.out)) hb); clear HO309; clear HO312; clear HO317; clear HO321; clear HO326; clear HI303; clear BK314; clear HB; have HO309 := n0_; have HO312 := n1_; have HO317 := n2_; have HO321 := n3_; have HO326 := n4_; have HO330 := n5_; have HI303 := n6_; have BK314 := n7_; have HB := n8_; clear n0_ n1_ n2_ n3_ n4_ n5_ n6_ n7_ n8_; (try clear hb); (try clear hb2); (try clear hk); (try clear hi); (try clear ho0)))
    go_ret
    exact ⟨by first | rfl | (simp [errW_none, errW_some] <;> rfl) | (simp [*, errW_none, errW_some] <;> rfl), by repeat (first | (with_reducible first | exact HB.out | apply below_alloc | apply pw_below_drewN | apply below_drew1 | refine below_set ?_ (IsS44.ge HI303.out) | refine below_set ?_ GE314.out) | exact HB.out)⟩
/-- THE ONE PURE STATEMENT of trustquorumlaw05_SlicesDual: yours. -/
def trustquorumlaw05_SlicesDual.Pure : Prop := ∀ (l0 : List Int), l0.length ≤ maxLen → l0.length * 8 ≤ 140737488351232 → (∀ x ∈ l0, (Lit.int .i64 x).wf = true) → ∃ k, trustquorumlaw05_SlicesDual.f k l0 = some true
theorem trustquorumlaw05_SlicesDual.walk (P : trustquorumlaw05_SlicesDual.Pure) (a0 : Option Addr) (len0 cap0 : Nat) (z0 : List Int) (w : World) (w0 : (a0 = none ∧ len0 = 0 ∧ cap0 = 0 ∧ z0 = []) ∨ ∃ x, a0 = some x ∧ len0 ≤ cap0 ∧ cap0 ≤ maxLen ∧ z0.length = cap0 ∧ (∀ i, i < z0.length → w.cell? (x.add i) = some (.int .i64 (z0.getD i 0))) ∧ ∀ n ∈ z0, (Lit.int .i64 n).wf = true) (y0 : len0 * 8 ≤ 140737488351232) :
    Calls Try.prog 4 #[.slice a0 len0 cap0] w fun e w' => e = .returned (.bool true) ∧ Below w.heap.size w w' := by
  obtain ⟨l0, rfl, hr0, hm0, hw0, hc0⟩ := ReadsInt.ofRowC w0
  obtain ⟨k, h⟩ := P l0 hm0 y0 hw0
  refine (trustquorumlaw05_SlicesDual.calls k _ _ l0 true w (Kd.C_of_reads (d := (0 : Int)) (h1 := fun _ => rfl) hr0) hc0 h).mono ?_
  rintro e w' ⟨rfl, hd⟩
  exact ⟨rfl, hd⟩
end Go.Proofs.Ytfkpimjiaijmgaa.G
end
section
namespace Go.Proofs.Ytfkpimjiaijmgaa.Q
open Go.RowKit Go.Proofs.Ytfkpimjiaijmgaa.G Go.Proofs.YtfkpimjiaijmgaaW.PrintWords Go.Proofs.YtfkpimjiaijmgaaW.PrintLast Go.Proofs.YtfkpimjiaijmgaaW.PrintMore Go.Proofs.YtfkpimjiaijmgaaV
set_option linter.unusedVariables false
/-- A tape: at most 400 numbers; the place lies in it. -/
structure TI (l : List Int) (p : Int) : Prop where
  len : l.length ≤ 400
  lo : 0 ≤ p
  hi : p ≤ l.length
theorem wrap_of {x : Int} (h0 : -9223372036854775808 ≤ x) (h1 : x ≤ 9223372036854775807) : wrap64 x = x := by unfold wrap64; omega
theorem tape_new (l : List Int) : ∃ l', trustquorummake_New.f l = some (l', 0) ∧ TI l' 0 := by
  unfold trustquorummake_New.f
  have h : mn (l.length : Int) 400 ≤ 400 ∧ mn (l.length : Int) 400 ≤ l.length ∧ 0 ≤ mn (l.length : Int) 400 := by unfold mn; split <;> omega
  rw [if_pos h.2.2, if_pos h.2.1]
  refine ⟨_, rfl, ⟨?_, Int.le_refl _, by omega⟩⟩
  rw [List.length_take]; omega
theorem tape_N {l : List Int} {p : Int} (h : TI l p) (n : Int) (hn : 0 < n) (hn2 : n ≤ 4294967296) : ∃ r q, trustquorummake_Tape_N.f l p n = some (r, q) ∧ 0 ≤ r ∧ r < n ∧ TI l q := by
  obtain ⟨h1, h2, h3⟩ := h
  unfold trustquorummake_Tape_N.f
  by_cases c : p ≥ (l.length : Int)
  · rw [if_pos c]; exact ⟨0, p, rfl, Int.le_refl _, hn, h1, h2, h3⟩
  · rw [if_neg c, if_pos h2, if_pos (by omega), if_neg (by omega)]
    have hp : wrap64 (p + 1) = p + 1 := wrap_of (by omega) (by omega)
    have t1 := Int.tmod_lt_of_pos (rd l p) hn
    have t2 := Int.lt_tmod_of_pos (rd l p) hn
    rw [hp]
    by_cases c2 : Int.tmod (rd l p) n < 0
    · rw [if_pos c2, wrap_of (by omega) (by omega)]; exact ⟨_, _, rfl, by omega, by omega, h1, by omega, by omega⟩
    · rw [if_neg c2]; exact ⟨_, _, rfl, by omega, by omega, h1, by omega, by omega⟩
theorem tape_Range {l : List Int} {p : Int} (h : TI l p) (a b : Int) (hab : a ≤ b) (ha : -1000000 ≤ a) (hb : b ≤ 1000000) : ∃ r q, trustquorummake_Tape_Range.f l p a b = some (r, q) ∧ a ≤ r ∧ r ≤ b ∧ TI l q := by
  unfold trustquorummake_Tape_Range.f
  have w1 : wrap64 (b - a) = b - a := wrap_of (by omega) (by omega)
  have w2 : wrap64 (b - a + 1) = b - a + 1 := wrap_of (by omega) (by omega)
  rw [w1, w2]
  obtain ⟨r, q, e, h0, h1, hq⟩ := tape_N h (b - a + 1) (by omega) (by omega)
  rw [e]
  refine ⟨a + r, q, ?_, by omega, by omega, hq⟩
  simp only [Option.bind_some]
  rw [wrap_of (by omega) (by omega)]
theorem rd_mem {xs : List Int} {i : Int} (h0 : 0 ≤ i) (h1 : i < xs.length) : rd xs i ∈ xs := by
  have : i.toNat < xs.length := by omega
  unfold rd
  rw [List.getD_eq_getElem?_getD, List.getElem?_eq_getElem this]
  exact List.getElem_mem this
theorem tape_Pick {l : List Int} {p : Int} (h : TI l p) (xs : List Int) (hx : 0 < xs.length) (hx2 : xs.length ≤ 4294967296) : ∃ r q, trustquorummake_Tape_Pick.f l p xs = some (r, q) ∧ r ∈ xs ∧ TI l q := by
  unfold trustquorummake_Tape_Pick.f
  obtain ⟨r, q, e, h0, h1, hq⟩ := tape_N h (xs.length : Int) (by omega) (by omega)
  rw [e]
  simp only [Option.bind_some]
  rw [if_pos h0, if_pos h1]
  exact ⟨_, _, rfl, rd_mem h0 h1, hq⟩
/-- Order's second loop: places are exchanged. -/
theorem order_l1 {l : List Int} : ∀ (d : Nat) (xs : List Int) (p : Int) (i : Int), TI l p → i = (d : Int) → (d : Int) < xs.length ∨ d = 0 → xs.length ≤ 1000000 →
    ∃ ys q, Ev (fun k => trustquorummake_Tape_Order.l1 k xs i l p) (ys, q) ∧ ys.Perm xs ∧ TI l q
  | 0, xs, p, i, h, hi, _, _ => ⟨xs, p, Ev.step (f := fun _ => some (xs, p)) (fun k => by simp only [trustquorummake_Tape_Order.l1]; rw [if_neg (by omega)]) (Ev.now _), List.Perm.refl _, h⟩
  | d + 1, xs, p, i, h, hi, hd, hl => by
    have hd' : ((d + 1 : Nat) : Int) < xs.length := by omega
    have w1 : wrap64 (i + 1) = i + 1 := wrap_of (by omega) (by omega)
    have w2 : wrap64 (i - 1) = i - 1 := wrap_of (by omega) (by omega)
    obtain ⟨r, q, e, h0, h1, hq⟩ := tape_N h (i + 1) (by omega) (by omega)
    have hperm := swap_perm xs i.toNat r.toNat (by omega) (by omega)
    obtain ⟨ys, q2, he, hp, hq2⟩ := order_l1 d ((xs.set i.toNat (rd xs r)).set r.toNat (rd xs i)) q (i - 1) hq (by omega) (by simp; omega) (by simpa using hl)
    refine ⟨ys, q2, ?_, hp.trans ?_, hq2⟩
    · refine Ev.step (f := fun k => trustquorummake_Tape_Order.l1 k ((xs.set i.toNat (rd xs r)).set r.toNat (rd xs i)) (i - 1) l q) (fun k => ?_) he
      simp only [trustquorummake_Tape_Order.l1]
      rw [if_pos (by omega), w1, e]
      simp only [Option.bind_some]
      rw [if_pos h0, if_pos (by omega), if_pos (by omega), if_pos (by omega), w2]
    · exact hperm
where
  swap_perm (xs : List Int) (i r : Nat) (hi : i < xs.length) (hr : r < xs.length) : ((xs.set i (xs.getD r 0)).set r (xs.getD i 0)).Perm xs := by
    have e1 : xs.getD r 0 = xs[r] := by simp [List.getD, hr]
    have e2 : xs.getD i 0 = xs[i] := by simp [List.getD, hi]
    rw [e1, e2]
    have := List.set_set_perm hi hr
    exact this
theorem order_l0 {l : List Int} (n : Nat) (hn : n ≤ 1000) : ∀ (d i : Nat) (p : Int), i + d = n → TI l p →
    ∃ ys q, Ev (fun k => trustquorummake_Tape_Order.l0 k n ((List.range i).map Int.ofNat) i l p) (ys, q) ∧ ys.Perm ((List.range n).map Int.ofNat) ∧ TI l q
  | 0, i, p, hi, h => by
    obtain rfl : i = n := by omega
    have w2 : wrap64 ((i : Int) - 1) = (i : Int) - 1 := wrap_of (by omega) (by omega)
    cases i with
    | zero =>
      refine ⟨[], p, ?_, List.Perm.refl _, h⟩
      refine Ev.step (f := fun k => trustquorummake_Tape_Order.l1 k [] (-1) l p) (fun k => ?_) ?_
      · simp only [trustquorummake_Tape_Order.l0]
        rw [if_neg (by omega), w2]; rfl
      · exact Ev.step (f := fun _ => some ([], p)) (fun k => by simp only [trustquorummake_Tape_Order.l1]; rw [if_neg (by omega)]) (Ev.now _)
    | succ i =>
      obtain ⟨ys, q, he, hp, hq⟩ := order_l1 (l := l) i ((List.range (i + 1)).map Int.ofNat) p (((i + 1 : Nat) : Int) - 1) h (by omega) (by simp; omega) (by simp; omega)
      refine ⟨ys, q, Ev.step (fun k => ?_) he, hp, hq⟩
      simp only [trustquorummake_Tape_Order.l0]
      rw [if_neg (by omega), w2]
  | d + 1, i, p, hi, h => by
    obtain ⟨ys, q, he, hp, hq⟩ := order_l0 n hn d (i + 1) p (by omega) h
    refine ⟨ys, q, Ev.step (fun k => ?_) he, hp, hq⟩
    have w1 : wrap64 ((i : Int) + 1) = ((i + 1 : Nat) : Int) := by rw [wrap_of (by omega) (by omega)]; omega
    simp only [trustquorummake_Tape_Order.l0]
    rw [if_pos (by omega), if_pos (by simp; omega), w1, List.range_succ, List.map_append]; rfl
theorem tape_Order {l : List Int} {p : Int} (h : TI l p) (n : Nat) (hn : n ≤ 1000) : ∃ ys q, Ev (fun k => trustquorummake_Tape_Order.f k l p n) (ys, q) ∧ ys.Perm ((List.range n).map Int.ofNat) ∧ TI l q :=
  order_l0 n hn n 0 p (by omega) h
end Go.Proofs.Ytfkpimjiaijmgaa.Q
end
section
namespace Go.Proofs.Ytfkpimjiaijmgaa.Q
open Go.RowKit Go.Proofs.Ytfkpimjiaijmgaa.G Go.Proofs.YtfkpimjiaijmgaaW.PrintWords Go.Proofs.YtfkpimjiaijmgaaW.PrintLast Go.Proofs.YtfkpimjiaijmgaaW.PrintMore Go.Proofs.YtfkpimjiaijmgaaV
set_option linter.unusedVariables false
def hasI (s k : Int) : Bool := isSet s && (decide (0 ≤ k) && (decide (k < 10) && s.toNat.testBit k.toNat))
theorem valid_eqI (x : Int) : nodeset_Valid.f x = some (isSet x) := valid_eq x
theorem refValid_eq (x : Int) : trustquorumref01_Valid.f x = some (isSet x) := by
  unfold trustquorumref01_Valid.f isSet
  by_cases h : 0 ≤ x
  · simp [h, ge_iff_le]; omega
  · simp [h, ge_iff_le]
theorem has_eq (s k : Int) : nodeset_Has.f s k = some (hasI s k) := by
  unfold nodeset_Has.f hasI
  rw [valid_eqI]
  simp only [Option.bind_some]
  cases hs : isSet s with
  | false => simp
  | true =>
    by_cases h0 : 0 ≤ k
    · by_cases h1 : k < 10
      · obtain ⟨n, rfl, hn⟩ := isSet_nat hs
        obtain ⟨m, rfl⟩ := Int.eq_ofNat_of_zero_le h0
        have := (by decide +kernel : ∀ n : Fin 1024, ∀ m : Fin 10, (Go.bits .and .i64 (n.1 : Int) (shl .i64 1 (m.1 : Int)) != 0) = n.1.testBit m.1) ⟨n, hn⟩ ⟨m, by omega⟩
        simp only [ge_iff_le, h0, h1, if_true, decide_true, Bool.true_and, Int.toNat_natCast, this]
      · simp [ge_iff_le, h0, h1]
    · simp [ge_iff_le, h0]
theorem refHas_eq (s k : Int) : trustquorumref01_Has.f s k = some (hasI s k) := by
  unfold trustquorumref01_Has.f hasI
  rw [refValid_eq]
  simp only [Option.bind_some]
  cases hs : isSet s with
  | false => simp
  | true =>
    by_cases h0 : 0 ≤ k
    · by_cases h1 : k < 10
      · obtain ⟨n, rfl, hn⟩ := isSet_nat hs
        obtain ⟨m, rfl⟩ := Int.eq_ofNat_of_zero_le h0
        have := (by decide +kernel : ∀ n : Fin 1024, ∀ m : Fin 10, (Go.bits .and .i64 (shr .i64 (n.1 : Int) (m.1 : Int)) 1 == 1) = n.1.testBit m.1) ⟨n, hn⟩ ⟨m, by omega⟩
        simp only [ge_iff_le, h0, h1, if_true, decide_true, Bool.true_and, Int.toNat_natCast, this]
      · simp [ge_iff_le, h0, h1]
    · simp [ge_iff_le, h0]
end Go.Proofs.Ytfkpimjiaijmgaa.Q
end
section
namespace Go.Proofs.Ytfkpimjiaijmgaa.Q
open Go.RowKit Go.Proofs.Ytfkpimjiaijmgaa.G Go.Proofs.YtfkpimjiaijmgaaW.PrintWords Go.Proofs.YtfkpimjiaijmgaaW.PrintLast Go.Proofs.YtfkpimjiaijmgaaW.PrintMore Go.Proofs.YtfkpimjiaijmgaaV
set_option linter.unusedVariables false
abbrev TT := S27
/-- A trust all of whose lists are short. -/
inductive Sm : TT → Prop
  | mk (a : Int) (l : List Int) (ts : List TT) (h1 : l.length ≤ 1073741824) (h2 : ts.length ≤ 1073741824) (h3 : ∀ t ∈ ts, Sm t) : Sm ⟨a, l, ts⟩
theorem Sm.len {a : Int} {l : List Int} {ts : List TT} (h : Sm ⟨a, l, ts⟩) : l.length ≤ 1073741824 ∧ ts.length ≤ 1073741824 ∧ ∀ t ∈ ts, Sm t := by
  cases h with | mk _ _ _ h1 h2 h3 => exact ⟨h1, h2, h3⟩
theorem rdT_mem {ts : List TT} {i : Int} (h0 : 0 ≤ i) (h1 : i < ts.length) : rd_T27 ts i = ts[i.toNat]'(by omega) := by
  unfold rd_T27
  rw [List.getD_eq_getElem?_getD, List.getElem?_eq_getElem (by omega)]; rfl
theorem ev_val {α : Type} {f : Nat → Option α} {a b : α} (h : Ev f a) (e : a = b) : Ev f b := e ▸ h
def satT : TT → Int → Bool
  | ⟨a, l, ts⟩, s => isSet s && decide (a ≤ ((l.filter (hasI s)).length + (ts.attach.filter fun x => satT x.1 s).length : Nat))
termination_by t => SizeOf.sizeOf t
decreasing_by
  have := List.sizeOf_lt_of_mem x.2
  simp_wf; omega
theorem satT_eq (a : Int) (l : List Int) (ts : List TT) (s : Int) : satT ⟨a, l, ts⟩ s = (isSet s && decide (a ≤ ((l.filter (hasI s)).length + (ts.filter fun x => satT x s).length : Nat))) := by
  have h : (ts.attach.filter fun x => satT x.1 s).length = (ts.filter fun x => satT x s).length := by
    rw [← List.countP_eq_length_filter, ← List.countP_eq_length_filter]
    exact List.countP_attach (l := ts) (p := fun x => satT x s)
  rw [satT, h]
theorem sat_l1 {s : Int} (a : Int) (l : List Int) (ts0 ts : List TT) (hl : ts.length ≤ 1073741824) (ih : ∀ t ∈ ts, Ev (fun k => threshold_Satisfied.f k t.f0 t.f1 t.f2 s) (satT t s)) : ∀ (d i : Nat) (c : Nat), i + d = ts.length → c ≤ 1073741824 + i →
    Ev (fun k => threshold_Satisfied.l1 k s c ts ts.length i a l ts0) (decide (a ≤ (c + ((ts.drop i).filter fun x => satT x s).length : Nat)))
  | 0, i, c, hi, hc => Ev.step (f := fun _ => some (decide (a ≤ (c + ((ts.drop i).filter fun x => satT x s).length : Nat)))) (fun k => by
      simp only [threshold_Satisfied.l1]
      rw [if_neg (by omega), List.drop_of_length_le (by omega)]; simp only [List.filter_nil, List.length_nil, Nat.add_zero, ge_iff_le]; rfl) (Ev.now _)
  | d + 1, i, c, hi, hc => by
    have hlt : i < ts.length := by omega
    have e : (ts.drop i) = ts[i] :: ts.drop (i + 1) := List.drop_eq_getElem_cons hlt
    have w1 : wrap64 ((i : Int) + 1) = ((i + 1 : Nat) : Int) := by rw [wrap_of (by omega) (by omega)]; omega
    have w2 : wrap64 ((c : Int) + 1) = ((c + 1 : Nat) : Int) := by rw [wrap_of (by omega) (by omega)]; omega
    have hr := rdT_mem (ts := ts) (i := (i : Int)) (by omega) (by omega)
    have hi1 := ih ts[i] (List.getElem_mem hlt)
    refine Ev.step (f := fun k => (threshold_Satisfied.f k ts[i].f0 ts[i].f1 ts[i].f2 s).bind fun t => if t = true then threshold_Satisfied.l1 k s ((c + 1 : Nat) : Int) ts ts.length ((i + 1 : Nat) : Int) a l ts0 else threshold_Satisfied.l1 k s c ts ts.length ((i + 1 : Nat) : Int) a l ts0) (fun k => ?_) (Ev.bind hi1 ?_)
    · simp only [threshold_Satisfied.l1]
      rw [if_pos (by omega), if_pos (by omega), if_pos (by omega), hr, w1, w2]; rfl
    · rw [e, List.filter_cons]
      cases satT ts[i] s with
      | true =>
        have := sat_l1 a l ts0 ts hl ih d (i + 1) (c + 1) (by omega) (by omega)
        exact ev_val this (by simp [Nat.add_assoc, Nat.add_comm 1])
      | false =>
        have := sat_l1 a l ts0 ts hl ih d (i + 1) c (by omega) (by omega)
        exact ev_val this (by simp)
theorem sat_l0 {s : Int} (a : Int) (l0 l : List Int) (ts : List TT) (hl : l.length ≤ 1073741824) (ht : ts.length ≤ 1073741824) (ih : ∀ t ∈ ts, Ev (fun k => threshold_Satisfied.f k t.f0 t.f1 t.f2 s) (satT t s)) : ∀ (d i : Nat) (c : Nat), i + d = l.length → c ≤ i →
    Ev (fun k => threshold_Satisfied.l0 k s c l l.length i a l0 ts) (decide (a ≤ ((c + ((l.drop i).filter (hasI s)).length) + (ts.filter fun x => satT x s).length : Nat)))
  | 0, i, c, hi, hc => by
    have := sat_l1 (s := s) a l0 ts ts ht ih ts.length 0 c (by omega) (by omega)
    refine ev_val (Ev.step (fun k => ?_) this) (by rw [List.drop_of_length_le (by omega : l.length ≤ i), List.drop_zero]; rfl)
    simp only [threshold_Satisfied.l0]
    rw [if_neg (by omega)]; rfl
  | d + 1, i, c, hi, hc => by
    have hlt : i < l.length := by omega
    have e : (l.drop i) = l[i] :: l.drop (i + 1) := List.drop_eq_getElem_cons hlt
    have w1 : wrap64 ((i : Int) + 1) = ((i + 1 : Nat) : Int) := by rw [wrap_of (by omega) (by omega)]; omega
    have w2 : wrap64 ((c : Int) + 1) = ((c + 1 : Nat) : Int) := by rw [wrap_of (by omega) (by omega)]; omega
    have hr : rd l (i : Int) = l[i] := by unfold rd; rw [List.getD_eq_getElem?_getD, Int.toNat_natCast, List.getElem?_eq_getElem hlt]; rfl
    rw [e, List.filter_cons]
    cases hh : hasI s l[i] with
    | true =>
      have := sat_l0 a l0 l ts hl ht ih d (i + 1) (c + 1) (by omega) (by omega)
      refine ev_val (Ev.step (fun k => ?_) this) (by simp [Nat.add_assoc, Nat.add_comm 1])
      simp only [threshold_Satisfied.l0]
      rw [if_pos (by omega), if_pos (by omega), if_pos (by omega), hr, has_eq, hh]
      simp only [Option.bind_some, if_true]
      rw [w1, w2]
    | false =>
      have := sat_l0 a l0 l ts hl ht ih d (i + 1) c (by omega) (by omega)
      refine ev_val (Ev.step (fun k => ?_) this) (by simp)
      simp only [threshold_Satisfied.l0]
      rw [if_pos (by omega), if_pos (by omega), if_pos (by omega), hr, has_eq, hh]
      simp only [Option.bind_some, Bool.false_eq_true, if_false]
      rw [w1]
theorem sat_ev (s : Int) : ∀ {t : TT}, Sm t → Ev (fun k => threshold_Satisfied.f k t.f0 t.f1 t.f2 s) (satT t s) := by
  intro t ht
  induction ht with
  | mk a l ts h1 h2 h3 ih =>
    rw [satT_eq]
    cases hs : isSet s with
    | false =>
      refine Ev.step (f := fun _ => some false) (fun k => ?_) (Ev.now _)
      simp only [threshold_Satisfied.f]
      rw [valid_eqI, hs]; rfl
    | true =>
      have := sat_l0 (s := s) a l l ts h1 h2 ih l.length 0 0 (by omega) (by omega)
      refine ev_val (Ev.step (fun k => ?_) this) (by simp)
      simp only [threshold_Satisfied.f]
      rw [valid_eqI, hs]; rfl
theorem blk_ev (s : Int) {t : TT} (ht : Sm t) : Ev (fun k => threshold_Blocked.f k t.f0 t.f1 t.f2 s) (isSet s && !satT t (1023 - s)) := by
  cases hs : isSet s with
  | false =>
    refine Ev.congr (fun k => ?_) (Ev.now _)
    unfold threshold_Blocked.f
    rw [valid_eqI, hs]; rfl
  | true =>
    obtain ⟨n, rfl, hn⟩ := isSet_nat hs
    have w : wrap64 (1023 - (n : Int)) = 1023 - (n : Int) := wrap_of (by omega) (by omega)
    refine Ev.congr (f := fun k => (threshold_Satisfied.f k t.f0 t.f1 t.f2 (1023 - (n : Int))).bind fun b => some (!b)) (fun k => ?_) (Ev.bind (sat_ev _ ht) (Ev.now _))
    unfold threshold_Blocked.f
    rw [valid_eqI, hs, w]; rfl
end Go.Proofs.Ytfkpimjiaijmgaa.Q
end
section
namespace Go.Proofs.Ytfkpimjiaijmgaa.Q
open Go.RowKit Go.Proofs.Ytfkpimjiaijmgaa.G Go.Proofs.YtfkpimjiaijmgaaW.PrintWords Go.Proofs.YtfkpimjiaijmgaaW.PrintLast Go.Proofs.YtfkpimjiaijmgaaW.PrintMore Go.Proofs.YtfkpimjiaijmgaaV
set_option linter.unusedVariables false
def ofV : Nat → List Int → Int × Int
  | n, [] => ((n : Int), 0)
  | n, x :: l => if isNode x then (if n.testBit x.toNat then (0, 6) else ofV (n ||| 2 ^ x.toNat) l) else (0, 5)
theorem or_bit : ∀ (n : Nat), n < 1024 → ∀ m : Nat, m < 10 → Go.bits .or .i64 (n : Int) (shl .i64 1 (m : Int)) = ((n ||| 2 ^ m : Nat) : Int) ∧ n ||| 2 ^ m < 1024 := fun n hn m hm =>
  (by decide +kernel : ∀ n : Fin 1024, ∀ m : Fin 10, Go.bits .or .i64 (n.1 : Int) (shl .i64 1 (m.1 : Int)) = ((n.1 ||| 2 ^ m.1 : Nat) : Int) ∧ n.1 ||| 2 ^ m.1 < 1024) ⟨n, hn⟩ ⟨m, hm⟩
theorem isNode_nat {x : Int} (h : isNode x = true) : ∃ m : Nat, x = (m : Int) ∧ m < 10 := by
  simp only [isNode, Bool.and_eq_true, decide_eq_true_eq] at h
  exact ⟨x.toNat, by omega, by omega⟩
theorem set_of_lt {n : Nat} (h : n < 1024) : isSet (n : Int) = true := by simp [isSet]; omega
theorem has_nat {n m : Nat} (hn : n < 1024) (hm : m < 10) : hasI (n : Int) (m : Int) = n.testBit m := by
  simp [hasI, set_of_lt hn]; omega
theorem rd_get {l : List Int} {i : Nat} (h : i < l.length) : rd l (i : Int) = l[i] := by
  unfold rd; rw [List.getD_eq_getElem?_getD, Int.toNat_natCast, List.getElem?_eq_getElem h]; rfl
theorem up {i : Nat} (h : i ≤ 4611686018427387904) : wrap64 ((i : Int) + 1) = ((i + 1 : Nat) : Int) := by rw [wrap_of (by omega) (by omega)]; omega
theorem of_l0 {l : List Int} (hl : l.length ≤ 1073741824) : ∀ (d i n : Nat), i + d = l.length → n < 1024 → Ev (fun k => nodeset_Of.l0 k n l l.length i) (ofV n (l.drop i))
  | 0, i, n, hi, hn => by
    rw [List.drop_of_length_le (by omega)]
    refine Ev.step (f := fun _ => some ((n : Int), 0)) (fun k => ?_) (Ev.now _)
    simp only [nodeset_Of.l0]; rw [if_neg (by omega)]
  | d + 1, i, n, hi, hn => by
    have hlt : i < l.length := by omega
    have e : (l.drop i) = l[i] :: l.drop (i + 1) := List.drop_eq_getElem_cons hlt
    have hr := rd_get hlt
    rw [e]
    cases hx : isNode l[i] with
    | false =>
      refine ev_val (a := (0, 5)) ?_ (by rw [ofV, hx]; rfl)
      refine Ev.step (f := fun k => nodeset_Of.j1 k n l[i] l l.length i true) (fun k => ?_) (Ev.step (f := fun _ => some (0, 5)) (fun k => by simp only [nodeset_Of.j1]; rfl) (Ev.now _))
      simp only [nodeset_Of.l0]
      rw [if_pos (by omega), if_pos (by omega), if_pos (by omega), hr]
      have hx' : ¬ (0 ≤ l[i] ∧ l[i] < 10) := by simpa [isNode] using hx
      by_cases c : l[i] < 0
      · rw [if_pos c]
      · rw [if_neg c, decide_eq_true (by omega)]
    | true =>
      obtain ⟨m, em, hm⟩ := isNode_nat hx
      obtain ⟨hb, hb2⟩ := or_bit n hn m hm
      have ih := of_l0 hl d (i + 1) (n ||| 2 ^ m) (by omega) hb2
      refine Ev.step (f := fun k => nodeset_Of.j1 k n (m : Int) l l.length i false) (fun k => ?_) ?_
      · simp only [nodeset_Of.l0]
        rw [if_pos (by omega), if_pos (by omega), if_pos (by omega), hr, em, if_neg (by omega), decide_eq_false (by omega)]
      · cases ht : n.testBit m with
        | true =>
          refine ev_val (a := (0, 6)) (Ev.step (f := fun _ => some (0, 6)) (fun k => ?_) (Ev.now _)) (by rw [ofV, hx, em, Int.toNat_natCast, ht]; rfl)
          simp only [nodeset_Of.j1]
          rw [has_eq, has_nat hn hm, ht]; rfl
        | false =>
          refine ev_val (Ev.step (fun k => ?_) ih) (by rw [ofV, hx, em, Int.toNat_natCast, ht]; rfl)
          simp only [nodeset_Of.j1]
          rw [has_eq, has_nat hn hm, ht]
          simp only [Option.bind_some, Bool.false_eq_true, if_false]
          rw [if_pos (by omega), hb, up (by omega)]
theorem of_ev {l : List Int} (hl : l.length ≤ 1073741824) : Ev (fun k => nodeset_Of.f k l) (ofV 0 l) := of_l0 hl l.length 0 0 (by omega) (by omega)
theorem refof_l0 {l : List Int} (hl : l.length ≤ 1073741824) : ∀ (d i n : Nat), i + d = l.length → n < 1024 → Ev (fun k => trustquorumref01_Of.l0 k n l l.length i) (ofV n (l.drop i))
  | 0, i, n, hi, hn => by
    rw [List.drop_of_length_le (by omega)]
    refine Ev.step (f := fun _ => some ((n : Int), 0)) (fun k => ?_) (Ev.now _)
    simp only [trustquorumref01_Of.l0]; rw [if_neg (by omega)]
  | d + 1, i, n, hi, hn => by
    have hlt : i < l.length := by omega
    have e : (l.drop i) = l[i] :: l.drop (i + 1) := List.drop_eq_getElem_cons hlt
    have hr := rd_get hlt
    rw [e]
    cases hx : isNode l[i] with
    | false =>
      refine ev_val (a := (0, 5)) ?_ (by rw [ofV, hx]; rfl)
      refine Ev.step (f := fun k => trustquorumref01_Of.j1 k n l[i] l l.length i true) (fun k => ?_) (Ev.step (f := fun _ => some (0, 5)) (fun k => by simp only [trustquorumref01_Of.j1]; rfl) (Ev.now _))
      simp only [trustquorumref01_Of.l0]
      rw [if_pos (by omega), if_pos (by omega), if_pos (by omega), hr]
      have hx' : ¬ (0 ≤ l[i] ∧ l[i] < 10) := by simpa [isNode] using hx
      by_cases c : l[i] < 0
      · rw [if_pos c]
      · rw [if_neg c, decide_eq_true (by omega)]
    | true =>
      obtain ⟨m, em, hm⟩ := isNode_nat hx
      obtain ⟨hb, hb2⟩ := or_bit n hn m hm
      have ih := refof_l0 hl d (i + 1) (n ||| 2 ^ m) (by omega) hb2
      refine Ev.step (f := fun k => trustquorumref01_Of.j1 k n (m : Int) l l.length i false) (fun k => ?_) ?_
      · simp only [trustquorumref01_Of.l0]
        rw [if_pos (by omega), if_pos (by omega), if_pos (by omega), hr, em, if_neg (by omega), decide_eq_false (by omega)]
      · cases ht : n.testBit m with
        | true =>
          refine ev_val (a := (0, 6)) (Ev.step (f := fun _ => some (0, 6)) (fun k => ?_) (Ev.now _)) (by rw [ofV, hx, em, Int.toNat_natCast, ht]; rfl)
          simp only [trustquorumref01_Of.j1]
          rw [refHas_eq, has_nat hn hm, ht]; rfl
        | false =>
          refine ev_val (Ev.step (fun k => ?_) ih) (by rw [ofV, hx, em, Int.toNat_natCast, ht]; rfl)
          simp only [trustquorumref01_Of.j1]
          rw [refHas_eq, has_nat hn hm, ht]
          simp only [Option.bind_some, Bool.false_eq_true, if_false]
          rw [if_pos (by omega), hb, up (by omega)]
theorem refof_ev {l : List Int} (hl : l.length ≤ 1073741824) : Ev (fun k => trustquorumref01_Of.f k l) (ofV 0 l) := refof_l0 hl l.length 0 0 (by omega) (by omega)
def depthT : TT → Nat
  | ⟨_, _, ts⟩ => ts.attach.foldr (fun x r => max (depthT x.1) r) 0 + 1
termination_by t => SizeOf.sizeOf t
decreasing_by
  have := List.sizeOf_lt_of_mem x.2
  simp_wf; omega
theorem depthT_eq (a : Int) (l : List Int) (ts : List TT) : depthT ⟨a, l, ts⟩ = ts.foldr (fun x r => max (depthT x) r) 0 + 1 := by
  rw [depthT]; exact congrArg (· + 1) (List.foldr_attach (l := ts) (f := fun x r => max (depthT x) r) (b := 0))
def sizeT : TT → Nat
  | ⟨_, l, ts⟩ => l.length + ts.length + ts.attach.foldr (fun x r => sizeT x.1 + r) 0
termination_by t => SizeOf.sizeOf t
decreasing_by
  have := List.sizeOf_lt_of_mem x.2
  simp_wf; omega
theorem sizeT_eq (a : Int) (l : List Int) (ts : List TT) : sizeT ⟨a, l, ts⟩ = l.length + ts.length + ts.foldr (fun x r => sizeT x + r) 0 := by
  rw [sizeT]; exact congrArg (l.length + ts.length + ·) (List.foldr_attach (l := ts) (f := fun x r => sizeT x + r) (b := 0))
/-- At most d levels, ten nodes and three trusts on each. -/
def SmD : Nat → TT → Prop
  | 0, _ => False
  | d + 1, ⟨_, l, ts⟩ => l.length ≤ 10 ∧ ts.length ≤ 3 ∧ ∀ c ∈ ts, SmD d c
/-- .. and all nodes below n. -/
def SmN (n : Nat) : Nat → TT → Prop
  | 0, _ => False
  | d + 1, ⟨_, l, ts⟩ => l.length ≤ 10 ∧ ts.length ≤ 3 ∧ (∀ x ∈ l, 0 ≤ x ∧ x < (n : Int)) ∧ ∀ c ∈ ts, SmN n d c
theorem SmN.smd : ∀ {n d : Nat} {t : TT}, SmN n d t → SmD d t
  | _, 0, _, h => h.elim
  | _, d + 1, ⟨_, _, _⟩, h => ⟨h.1, h.2.1, fun c hc => SmN.smd (h.2.2.2 c hc)⟩
theorem SmD.sm : ∀ {d : Nat} {t : TT}, SmD d t → Sm t
  | 0, _, h => h.elim
  | d + 1, ⟨_, _, _⟩, h => .mk _ _ _ (by have := h.1; omega) (by have := h.2.1; omega) fun c hc => SmD.sm (h.2.2 c hc)
theorem SmD.more : ∀ {d : Nat} {t : TT}, SmD d t → SmD (d + 1) t
  | 0, _, h => h.elim
  | d + 1, ⟨_, _, _⟩, h => ⟨h.1, h.2.1, fun c hc => SmD.more (h.2.2 c hc)⟩
theorem SmD.upto {d e : Nat} {t : TT} (h : SmD d t) (he : d ≤ e) : SmD e t := by
  induction he with
  | refl => exact h
  | step _ ih => exact ih.more
theorem fold_max {ts : List TT} {f : TT → Nat} {d : Nat} (h : ∀ c ∈ ts, f c ≤ d) : ts.foldr (fun x r => max (f x) r) 0 ≤ d := by
  induction ts with
  | nil => exact Nat.zero_le _
  | cons t ts ih => exact Nat.max_le.2 ⟨h t (List.mem_cons_self ..), ih fun c hc => h c (List.mem_cons_of_mem _ hc)⟩
theorem fold_sum {ts : List TT} {f : TT → Nat} {d : Nat} (h : ∀ c ∈ ts, f c ≤ d) : ts.foldr (fun x r => f x + r) 0 ≤ ts.length * d := by
  induction ts with
  | nil => simp
  | cons t ts ih =>
    have h1 := h t (List.mem_cons_self ..)
    have h2 := ih fun c hc => h c (List.mem_cons_of_mem _ hc)
    simp only [List.foldr_cons, List.length_cons, Nat.succ_mul]; omega
theorem SmD.depth : ∀ {d : Nat} {t : TT}, SmD d t → depthT t ≤ d
  | 0, _, h => h.elim
  | d + 1, ⟨_, _, ts⟩, h => by
    rw [depthT_eq]
    have := fold_max (ts := ts) (f := depthT) (d := d) fun c hc => SmD.depth (h.2.2 c hc)
    omega
theorem SmD.size : ∀ {d : Nat} {t : TT}, SmD d t → sizeT t ≤ 13 * 4 ^ d
  | 0, _, h => h.elim
  | d + 1, ⟨_, l, ts⟩, h => by
    rw [sizeT_eq]
    have := fold_sum (ts := ts) (f := sizeT) (d := 13 * 4 ^ d) fun c hc => SmD.size (h.2.2 c hc)
    have h1 := h.1
    have h2 := h.2.1
    have h3 : ts.length * (13 * 4 ^ d) ≤ 3 * (13 * 4 ^ d) := Nat.mul_le_mul_right _ h2
    have h4 : 1 ≤ 4 ^ d := Nat.one_le_pow _ _ (by omega)
    rw [Nat.pow_succ]; omega
theorem depth_l0 {ts : List TT} (hl : ts.length ≤ 1073741824) (ih : ∀ t ∈ ts, Ev (fun k => threshold_Depth.f k t.f0 t.f1 t.f2) (depthT t : Int)) (hd : ∀ t ∈ ts, depthT t ≤ 1000) : ∀ (d i m : Nat), i + d = ts.length → m ≤ 1000 →
    Ev (fun k => threshold_Depth.l0 k m ts ts.length i) ((max m ((ts.drop i).foldr (fun x r => max (depthT x) r) 0) + 1 : Nat) : Int)
  | 0, i, m, hi, hm => by
    refine ev_val (a := ((m + 1 : Nat) : Int)) (Ev.step (f := fun _ => some _) (fun k => ?_) (Ev.now _)) (by rw [List.drop_of_length_le (by omega)]; simp)
    simp only [threshold_Depth.l0]; rw [if_neg (by omega), up (by omega)]
  | d + 1, i, m, hi, hm => by
    have hlt : i < ts.length := by omega
    have e : (ts.drop i) = ts[i] :: ts.drop (i + 1) := List.drop_eq_getElem_cons hlt
    have hr := rdT_mem (ts := ts) (i := (i : Int)) (by omega) (by omega)
    have hdi := hd ts[i] (List.getElem_mem hlt)
    have h2 := depth_l0 hl ih hd d (i + 1) (max m (depthT ts[i])) (by omega) (by omega)
    refine ev_val (Ev.step (f := fun k => (threshold_Depth.f k ts[i].f0 ts[i].f1 ts[i].f2).bind fun t => threshold_Depth.l0 k (mx m t) ts ts.length ((i + 1 : Nat) : Int)) (fun k => ?_) (Ev.bind (ih ts[i] (List.getElem_mem hlt)) (Ev.congr (fun k => ?_) h2))) (by rw [e, List.foldr_cons]; congr 2; omega)
    · simp only [threshold_Depth.l0]
      rw [if_pos (by omega), if_pos (by omega), if_pos (by omega), hr, up (by omega)]; rfl
    · have : mx (m : Int) (depthT ts[i] : Int) = ((max m (depthT ts[i]) : Nat) : Int) := by unfold mx; split <;> omega
      rw [this]
theorem depth_ev : ∀ {d : Nat}, d ≤ 1000 → ∀ {t : TT}, SmD d t → Ev (fun k => threshold_Depth.f k t.f0 t.f1 t.f2) (depthT t : Int)
  | 0, _, _, h => h.elim
  | d + 1, hd, ⟨a, l, ts⟩, h => by
    have h0 := depth_l0 (ts := ts) (by have := h.2.1; omega) (fun t ht => depth_ev (by omega) (h.2.2 t ht)) (fun t ht => by have := (h.2.2 t ht).depth; omega) ts.length 0 0 (by omega) (by omega)
    exact ev_val (Ev.step (fun k => by simp only [threshold_Depth.f]; rfl) h0) (by rw [depthT_eq]; simp)
theorem size_l0 {ts : List TT} (hl : ts.length ≤ 1073741824) (ih : ∀ t ∈ ts, Ev (fun k => threshold_Size.f k t.f0 t.f1 t.f2) (sizeT t : Int)) : ∀ (d i m : Nat), i + d = ts.length → m + (ts.drop i).foldr (fun x r => sizeT x + r) 0 ≤ 1073741824 →
    Ev (fun k => threshold_Size.l0 k m ts ts.length i) ((m + (ts.drop i).foldr (fun x r => sizeT x + r) 0 : Nat) : Int)
  | 0, i, m, hi, hm => by
    refine ev_val (a := (m : Int)) (Ev.step (f := fun _ => some _) (fun k => ?_) (Ev.now _)) (by rw [List.drop_of_length_le (by omega)]; simp)
    simp only [threshold_Size.l0]; rw [if_neg (by omega)]
  | d + 1, i, m, hi, hm => by
    have hlt : i < ts.length := by omega
    have e : (ts.drop i) = ts[i] :: ts.drop (i + 1) := List.drop_eq_getElem_cons hlt
    have hr := rdT_mem (ts := ts) (i := (i : Int)) (by omega) (by omega)
    rw [e, List.foldr_cons] at hm
    have h2 := size_l0 hl ih d (i + 1) (m + sizeT ts[i]) (by omega) (by omega)
    refine ev_val (Ev.step (f := fun k => (threshold_Size.f k ts[i].f0 ts[i].f1 ts[i].f2).bind fun t => threshold_Size.l0 k (wrap64 (m + t)) ts ts.length ((i + 1 : Nat) : Int)) (fun k => ?_) (Ev.bind (ih ts[i] (List.getElem_mem hlt)) (Ev.congr (fun k => ?_) h2))) (by rw [e, List.foldr_cons]; congr 1; omega)
    · simp only [threshold_Size.l0]
      rw [if_pos (by omega), if_pos (by omega), if_pos (by omega), hr, up (by omega)]; rfl
    · have : wrap64 ((m : Int) + (sizeT ts[i] : Int)) = ((m + sizeT ts[i] : Nat) : Int) := by rw [wrap_of (by omega) (by omega)]; omega
      rw [this]
theorem size_ev : ∀ {d : Nat}, d ≤ 8 → ∀ {t : TT}, SmD d t → Ev (fun k => threshold_Size.f k t.f0 t.f1 t.f2) (sizeT t : Int)
  | 0, _, _, h => h.elim
  | d + 1, hd, ⟨a, l, ts⟩, h => by
    have hs := SmD.size h
    have hp : 4 ^ (d + 1) ≤ 4 ^ 8 := Nat.pow_le_pow_right (by omega) hd
    rw [sizeT_eq] at hs
    have h0 := size_l0 (ts := ts) (by have := h.2.1; omega) (fun t ht => size_ev (by omega) (h.2.2 t ht)) ts.length 0 (l.length + ts.length) (by omega) (by rw [List.drop_zero]; omega)
    refine ev_val (Ev.step (fun k => ?_) h0) (by rw [sizeT_eq, List.drop_zero])
    have : wrap64 ((l.length : Int) + (ts.length : Int)) = ((l.length + ts.length : Nat) : Int) := by rw [wrap_of (by omega) (by omega)]; omega
    simp only [threshold_Size.f]
    rw [this]; rfl
theorem refdepth_l0 {ts : List TT} (hl : ts.length ≤ 1073741824) (ih : ∀ t ∈ ts, Ev (fun k => trustquorumref02_Depth.f k t.f0 t.f1 t.f2) (depthT t : Int)) (hd : ∀ t ∈ ts, depthT t ≤ 1000) : ∀ (d i m : Nat), i + d = ts.length → m ≤ 1000 →
    Ev (fun k => trustquorumref02_Depth.l0 k m ts ts.length i) ((max m ((ts.drop i).foldr (fun x r => max (depthT x) r) 0) + 1 : Nat) : Int)
  | 0, i, m, hi, hm => by
    refine ev_val (a := ((m + 1 : Nat) : Int)) (Ev.step (f := fun _ => some _) (fun k => ?_) (Ev.now _)) (by rw [List.drop_of_length_le (by omega)]; simp)
    simp only [trustquorumref02_Depth.l0]; rw [if_neg (by omega), up (by omega)]
  | d + 1, i, m, hi, hm => by
    have hlt : i < ts.length := by omega
    have e : (ts.drop i) = ts[i] :: ts.drop (i + 1) := List.drop_eq_getElem_cons hlt
    have hr := rdT_mem (ts := ts) (i := (i : Int)) (by omega) (by omega)
    have hdi := hd ts[i] (List.getElem_mem hlt)
    have h2 := refdepth_l0 hl ih hd d (i + 1) (max m (depthT ts[i])) (by omega) (by omega)
    refine ev_val (Ev.step (f := fun k => (trustquorumref02_Depth.f k ts[i].f0 ts[i].f1 ts[i].f2).bind fun t => trustquorumref02_Depth.l0 k (mx m t) ts ts.length ((i + 1 : Nat) : Int)) (fun k => ?_) (Ev.bind (ih ts[i] (List.getElem_mem hlt)) (Ev.congr (fun k => ?_) h2))) (by rw [e, List.foldr_cons]; congr 2; omega)
    · simp only [trustquorumref02_Depth.l0]
      rw [if_pos (by omega), if_pos (by omega), if_pos (by omega), hr, up (by omega)]; rfl
    · have : mx (m : Int) (depthT ts[i] : Int) = ((max m (depthT ts[i]) : Nat) : Int) := by unfold mx; split <;> omega
      rw [this]
theorem refdepth_ev : ∀ {d : Nat}, d ≤ 1000 → ∀ {t : TT}, SmD d t → Ev (fun k => trustquorumref02_Depth.f k t.f0 t.f1 t.f2) (depthT t : Int)
  | 0, _, _, h => h.elim
  | d + 1, hd, ⟨a, l, ts⟩, h => by
    have h0 := refdepth_l0 (ts := ts) (by have := h.2.1; omega) (fun t ht => refdepth_ev (by omega) (h.2.2 t ht)) (fun t ht => by have := (h.2.2 t ht).depth; omega) ts.length 0 0 (by omega) (by omega)
    exact ev_val (Ev.step (fun k => by simp only [trustquorumref02_Depth.f]; rfl) h0) (by rw [depthT_eq]; simp)
theorem refsize_l0 {ts : List TT} (hl : ts.length ≤ 1073741824) (ih : ∀ t ∈ ts, Ev (fun k => trustquorumref02_Size.f k t.f0 t.f1 t.f2) (sizeT t : Int)) : ∀ (d i m : Nat), i + d = ts.length → m + (ts.drop i).foldr (fun x r => sizeT x + r) 0 ≤ 1073741824 →
    Ev (fun k => trustquorumref02_Size.l0 k m ts ts.length i) ((m + (ts.drop i).foldr (fun x r => sizeT x + r) 0 : Nat) : Int)
  | 0, i, m, hi, hm => by
    refine ev_val (a := (m : Int)) (Ev.step (f := fun _ => some _) (fun k => ?_) (Ev.now _)) (by rw [List.drop_of_length_le (by omega)]; simp)
    simp only [trustquorumref02_Size.l0]; rw [if_neg (by omega)]
  | d + 1, i, m, hi, hm => by
    have hlt : i < ts.length := by omega
    have e : (ts.drop i) = ts[i] :: ts.drop (i + 1) := List.drop_eq_getElem_cons hlt
    have hr := rdT_mem (ts := ts) (i := (i : Int)) (by omega) (by omega)
    rw [e, List.foldr_cons] at hm
    have h2 := refsize_l0 hl ih d (i + 1) (m + sizeT ts[i]) (by omega) (by omega)
    refine ev_val (Ev.step (f := fun k => (trustquorumref02_Size.f k ts[i].f0 ts[i].f1 ts[i].f2).bind fun t => trustquorumref02_Size.l0 k (wrap64 (m + t)) ts ts.length ((i + 1 : Nat) : Int)) (fun k => ?_) (Ev.bind (ih ts[i] (List.getElem_mem hlt)) (Ev.congr (fun k => ?_) h2))) (by rw [e, List.foldr_cons]; congr 1; omega)
    · simp only [trustquorumref02_Size.l0]
      rw [if_pos (by omega), if_pos (by omega), if_pos (by omega), hr, up (by omega)]; rfl
    · have : wrap64 ((m : Int) + (sizeT ts[i] : Int)) = ((m + sizeT ts[i] : Nat) : Int) := by rw [wrap_of (by omega) (by omega)]; omega
      rw [this]
theorem refsize_ev : ∀ {d : Nat}, d ≤ 8 → ∀ {t : TT}, SmD d t → Ev (fun k => trustquorumref02_Size.f k t.f0 t.f1 t.f2) (sizeT t : Int)
  | 0, _, _, h => h.elim
  | d + 1, hd, ⟨a, l, ts⟩, h => by
    have hs := SmD.size h
    have hp : 4 ^ (d + 1) ≤ 4 ^ 8 := Nat.pow_le_pow_right (by omega) hd
    rw [sizeT_eq] at hs
    have h0 := refsize_l0 (ts := ts) (by have := h.2.1; omega) (fun t ht => refsize_ev (by omega) (h.2.2 t ht)) ts.length 0 (l.length + ts.length) (by omega) (by rw [List.drop_zero]; omega)
    refine ev_val (Ev.step (fun k => ?_) h0) (by rw [sizeT_eq, List.drop_zero])
    have : wrap64 ((l.length : Int) + (ts.length : Int)) = ((l.length + ts.length : Nat) : Int) := by rw [wrap_of (by omega) (by omega)]; omega
    simp only [trustquorumref02_Size.f]
    rw [this]; rfl
def firstT (f : TT → Int) (ts : List TT) : Int := ts.foldr (fun x r => if f x = 0 then r else f x) 0
def chkT : TT → Int
  | ⟨a, l, ts⟩ => if a < 1 ∨ a > ((l.length + ts.length : Nat) : Int) then 4 else if (l.any fun x => !isNode x) = true then 5 else if (ofV 0 l).2 = 0 then ts.attach.foldr (fun x r => if chkT x.1 = 0 then r else chkT x.1) 0 else (ofV 0 l).2
termination_by t => SizeOf.sizeOf t
decreasing_by
  all_goals
    have := List.sizeOf_lt_of_mem x.2
    simp_wf; omega
theorem chkT_eq (a : Int) (l : List Int) (ts : List TT) : chkT ⟨a, l, ts⟩ = if a < 1 ∨ a > ((l.length + ts.length : Nat) : Int) then 4 else if (l.any fun x => !isNode x) = true then 5 else if (ofV 0 l).2 = 0 then firstT chkT ts else (ofV 0 l).2 := by
  have h : ts.attach.foldr (fun x r => if chkT x.1 = 0 then r else chkT x.1) 0 = firstT chkT ts := List.foldr_attach (l := ts) (f := fun x r => if chkT x = 0 then r else chkT x) (b := 0)
  rw [chkT, h]
theorem kids_l {ts : List TT} (hl : ts.length ≤ 1073741824) (ih : ∀ t ∈ ts, Ev (fun k => threshold_level.f k t.f0 t.f1 t.f2) (chkT t)) : ∀ (d i : Nat), i + d = ts.length →
    Ev (fun k => threshold_level.l0 k ts ts.length i) (firstT chkT (ts.drop i))
  | 0, i, hi => by
    refine ev_val (a := 0) (Ev.step (f := fun _ => some _) (fun k => ?_) (Ev.now _)) (by rw [List.drop_of_length_le (by omega)]; rfl)
    simp only [threshold_level.l0]; rw [if_neg (by omega)]
  | d + 1, i, hi => by
    have hlt : i < ts.length := by omega
    have e : (ts.drop i) = ts[i] :: ts.drop (i + 1) := List.drop_eq_getElem_cons hlt
    have hr := rdT_mem (ts := ts) (i := (i : Int)) (by omega) (by omega)
    have h2 := kids_l hl ih d (i + 1) (by omega)
    refine Ev.step (f := fun k => (threshold_level.f k ts[i].f0 ts[i].f1 ts[i].f2).bind fun t => if t = 0 then threshold_level.l0 k ts ts.length ((i + 1 : Nat) : Int) else some t) (fun k => ?_) (Ev.bind (ih ts[i] (List.getElem_mem hlt)) ?_)
    · simp only [threshold_level.l0]
      rw [if_pos (by omega), if_pos (by omega), if_pos (by omega), hr, up (by omega)]; rfl
    · by_cases c : chkT ts[i] = 0
      · exact ev_val (Ev.congr (fun k => by rw [if_pos c]) h2) (by rw [e, firstT, firstT, List.foldr_cons, if_pos c])
      · exact ev_val (Ev.congr (fun k => by rw [if_neg c]) (Ev.now (chkT ts[i]))) (by rw [e, firstT, List.foldr_cons, if_neg c])
theorem refkids_l {ts : List TT} (hl : ts.length ≤ 1073741824) (ih : ∀ t ∈ ts, Ev (fun k => trustquorumref02_check.f k t.f0 t.f1 t.f2) (chkT t)) : ∀ (d i : Nat), i + d = ts.length →
    Ev (fun k => trustquorumref02_check.l1 k ts ts.length i) (firstT chkT (ts.drop i))
  | 0, i, hi => by
    refine ev_val (a := 0) (Ev.step (f := fun _ => some _) (fun k => ?_) (Ev.now _)) (by rw [List.drop_of_length_le (by omega)]; rfl)
    simp only [trustquorumref02_check.l1]; rw [if_neg (by omega)]
  | d + 1, i, hi => by
    have hlt : i < ts.length := by omega
    have e : (ts.drop i) = ts[i] :: ts.drop (i + 1) := List.drop_eq_getElem_cons hlt
    have hr := rdT_mem (ts := ts) (i := (i : Int)) (by omega) (by omega)
    have h2 := refkids_l hl ih d (i + 1) (by omega)
    refine Ev.step (f := fun k => (trustquorumref02_check.f k ts[i].f0 ts[i].f1 ts[i].f2).bind fun t => if t = 0 then trustquorumref02_check.l1 k ts ts.length ((i + 1 : Nat) : Int) else some t) (fun k => ?_) (Ev.bind (ih ts[i] (List.getElem_mem hlt)) ?_)
    · simp only [trustquorumref02_check.l1]
      rw [if_pos (by omega), if_pos (by omega), if_pos (by omega), hr, up (by omega)]; rfl
    · by_cases c : chkT ts[i] = 0
      · exact ev_val (Ev.congr (fun k => by rw [if_pos c]) h2) (by rw [e, firstT, firstT, List.foldr_cons, if_pos c])
      · exact ev_val (Ev.congr (fun k => by rw [if_neg c]) (Ev.now (chkT ts[i]))) (by rw [e, firstT, List.foldr_cons, if_neg c])
theorem refnodes_l (a : Int) (l : List Int) (ts : List TT) (hl : l.length ≤ 1073741824) {r : Int} (h : Ev (fun k => (trustquorumref01_Of.f k l).bind fun b => if b.2 = 0 then trustquorumref02_check.l1 k ts ts.length 0 else some b.2) r) : ∀ (d i : Nat), i + d = l.length →
    Ev (fun k => trustquorumref02_check.l0 k l l.length i a l ts) (if ((l.drop i).any fun x => !isNode x) = true then 5 else r)
  | 0, i, hi => by
    refine ev_val (Ev.step (fun k => ?_) h) (by rw [List.drop_of_length_le (by omega)]; rfl)
    simp only [trustquorumref02_check.l0]; rw [if_neg (by omega)]
  | d + 1, i, hi => by
    have hlt : i < l.length := by omega
    have e : (l.drop i) = l[i] :: l.drop (i + 1) := List.drop_eq_getElem_cons hlt
    have hr := rd_get hlt
    have h2 := refnodes_l a l ts hl h d (i + 1) (by omega)
    rw [e, List.any_cons]
    cases hx : isNode l[i] with
    | false =>
      have hx' : ¬ (0 ≤ l[i] ∧ l[i] < 10) := by simpa [isNode] using hx
      refine ev_val (a := 5) (Ev.step (f := fun _ => some 5) (fun k => ?_) (Ev.now _)) (by simp)
      simp only [trustquorumref02_check.l0]
      rw [if_pos (by omega), if_pos (by omega), if_pos (by omega), hr]
      by_cases c : l[i] < 0
      · rw [if_pos c]
      · rw [if_neg c, if_pos (by omega)]
    | true =>
      obtain ⟨m, em, hm⟩ := isNode_nat hx
      refine ev_val (Ev.step (fun k => ?_) h2) (by rfl)
      simp only [trustquorumref02_check.l0]
      rw [if_pos (by omega), if_pos (by omega), if_pos (by omega), hr, em, if_neg (by omega), if_neg (by omega), up (by omega)]
theorem refchk_ev {t : TT} (ht : Sm t) : Ev (fun k => trustquorumref02_check.f k t.f0 t.f1 t.f2) (chkT t) := by
  induction ht with
  | mk a l ts h1 h2 h3 ih =>
    rw [chkT_eq]
    have w : wrap64 ((l.length : Int) + (ts.length : Int)) = ((l.length + ts.length : Nat) : Int) := by rw [wrap_of (by omega) (by omega)]; omega
    by_cases c : a < 1 ∨ a > ((l.length + ts.length : Nat) : Int)
    · rw [if_pos c]
      refine Ev.step (f := fun k => trustquorumref02_check.j0 k true a l ts) (fun k => ?_) (Ev.step (f := fun _ => some 4) (fun k => by simp only [trustquorumref02_check.j0]; rfl) (Ev.now _))
      simp only [trustquorumref02_check.f]
      by_cases c1 : a < 1
      · rw [if_pos c1]
      · rw [if_neg c1, w, decide_eq_true (by omega)]
    · rw [if_neg c]
      have hk := refkids_l h2 ih ts.length 0 (by omega)
      have h0 := refnodes_l a l ts h1 (r := if (ofV 0 l).2 = 0 then firstT chkT ts else (ofV 0 l).2) (Ev.bind (refof_ev h1) (by
        by_cases z : (ofV 0 l).2 = 0
        · simp only [if_pos z]; exact hk
        · simp only [if_neg z]; exact Ev.now _)) l.length 0 (by omega)
      refine Ev.step (f := fun k => trustquorumref02_check.j0 k false a l ts) (fun k => ?_) (Ev.step (fun k => ?_) h0)
      · simp only [trustquorumref02_check.f]
        rw [if_neg (by omega), w, decide_eq_false (by omega)]
      · simp only [trustquorumref02_check.j0]; rfl
theorem chk_ev {t : TT} (ht : Sm t) : Ev (fun k => threshold_level.f k t.f0 t.f1 t.f2) (chkT t) := by
  induction ht with
  | mk a l ts h1 h2 h3 ih =>
    rw [chkT_eq]
    have w : wrap64 ((l.length : Int) + (ts.length : Int)) = ((l.length + ts.length : Nat) : Int) := by rw [wrap_of (by omega) (by omega)]; omega
    by_cases c : a < 1 ∨ a > ((l.length + ts.length : Nat) : Int)
    · rw [if_pos c]
      refine Ev.step (f := fun k => threshold_level.j0 k true a l ts) (fun k => ?_) (Ev.step (f := fun _ => some 4) (fun k => by simp only [threshold_level.j0]; rfl) (Ev.now _))
      simp only [threshold_level.f]
      by_cases c1 : a < 1
      · rw [if_pos c1]
      · rw [if_neg c1, w, decide_eq_true (by omega)]
    · rw [if_neg c]
      have hk := kids_l h2 ih ts.length 0 (by omega)
      refine Ev.step (f := fun k => threshold_level.j0 k false a l ts) (fun k => ?_) ?_
      · simp only [threshold_level.f]
        rw [if_neg (by omega), w, decide_eq_false (by omega)]
      · cases hn : (l.any fun x => !isNode x) with
        | true =>
          refine Ev.step (f := fun _ => some 5) (fun k => ?_) (Ev.now _)
          simp only [threshold_level.j0, threshold_level_1.f]
          rw [hn]; rfl
        | false =>
          refine Ev.step (f := fun k => (nodeset_Of.f k l).bind fun b => if b.2 = 0 then threshold_level.l0 k ts ts.length 0 else some b.2) (fun k => ?_) (Ev.bind (of_ev h1) ?_)
          · simp only [threshold_level.j0, threshold_level_1.f]
            rw [hn]; rfl
          · by_cases z : (ofV 0 l).2 = 0
            · simp only [if_pos z]; exact hk
            · simp only [if_neg z]; exact Ev.now _
def validT (t : TT) : Int := if depthT t > 4 then 3 else if sizeT t > 200 then 3 else chkT t
theorem valid_ev {d : Nat} (hd : d ≤ 8) {t : TT} (h : SmD d t) : Ev (fun k => threshold_Valid.f k t.f0 t.f1 t.f2) (validT t) := by
  have h1 := depth_ev (by omega) h
  have h2 := size_ev hd h
  have h3 := chk_ev h.sm
  unfold validT
  refine Ev.bind h1 ?_
  by_cases c : depthT t > 4
  · rw [if_pos c]; exact Ev.congr (fun k => if_pos (by omega)) (Ev.now _)
  · rw [if_neg c]
    refine Ev.congr (fun k => if_neg (by omega)) (Ev.bind h2 ?_)
    by_cases c2 : sizeT t > 200
    · rw [if_pos c2]; exact Ev.congr (fun k => if_pos (by omega)) (Ev.now _)
    · rw [if_neg c2]
      exact Ev.congr (fun k => if_neg (by omega)) (Ev.bind h3 (Ev.now _))
theorem refvalid_ev {d : Nat} (hd : d ≤ 8) {t : TT} (h : SmD d t) : Ev (fun k => trustquorumref02_Valid.f k t.f0 t.f1 t.f2) (validT t) := by
  have h1 := refdepth_ev (by omega) h
  have h2 := refsize_ev hd h
  have h3 := refchk_ev h.sm
  unfold validT
  refine Ev.bind h1 ?_
  by_cases c : depthT t > 4
  · rw [if_pos c]; exact Ev.congr (fun k => if_pos (by omega)) (Ev.now _)
  · rw [if_neg c]
    refine Ev.congr (fun k => if_neg (by omega)) (Ev.bind h2 ?_)
    by_cases c2 : sizeT t > 200
    · rw [if_pos c2]; exact Ev.congr (fun k => if_pos (by omega)) (Ev.now _)
    · rw [if_neg c2]
      exact Ev.congr (fun k => if_neg (by omega)) (Ev.bind h3 (Ev.now _))
/-- A set that holds more satisfies no less. -/
def subN (a b : Int) : Prop := ∀ i, a.toNat.testBit i = true → b.toNat.testBit i = true
theorem has_mono {s u : Int} (hu : isSet u = true) (h : subN s u) (x : Int) (hx : hasI s x = true) : hasI u x = true := by
  simp only [hasI, Bool.and_eq_true] at hx ⊢
  exact ⟨hu, hx.2.1, hx.2.2.1, h _ hx.2.2.2⟩
theorem filter_mono {α : Type} {p q : α → Bool} {l : List α} (h : ∀ x ∈ l, p x = true → q x = true) : (l.filter p).length ≤ (l.filter q).length := by
  rw [← List.countP_eq_length_filter, ← List.countP_eq_length_filter]
  exact List.countP_mono_left h
theorem sat_mono {s u : Int} (hu : isSet u = true) (hsu : subN s u) {t : TT} (ht : Sm t) (h : satT t s = true) : satT t u = true := by
  induction ht with
  | mk a l ts h1 h2 h3 ih =>
    rw [satT_eq, Bool.and_eq_true, decide_eq_true_eq] at h ⊢
    have e1 := filter_mono (l := l) fun x _ => has_mono hu hsu x
    have e2 := filter_mono (l := ts) (p := fun x => satT x s) (q := fun x => satT x u) fun x hx hs => ih x hx hs
    exact ⟨hu, by omega⟩
end Go.Proofs.Ytfkpimjiaijmgaa.Q
end
section
namespace Go.Proofs.Ytfkpimjiaijmgaa.Q
open Go.RowKit Go.Proofs.Ytfkpimjiaijmgaa.G Go.Proofs.YtfkpimjiaijmgaaW.PrintWords Go.Proofs.YtfkpimjiaijmgaaW.PrintLast Go.Proofs.YtfkpimjiaijmgaaW.PrintMore Go.Proofs.YtfkpimjiaijmgaaV
set_option linter.unusedVariables false
theorem mk_l0 {l : List Int} (n a2 : Int) (y : List Int) (hy : y.length ≤ 1073741824) (p : Int) {R : Int × List Int × List TT × Int} (h : Ev (fun k => trustquorummake_trust.l0 k n a2 y y.length (y.length : Nat) l p 0 y) R) : ∀ (d i : Nat), i + d = y.length →
    Ev (fun k => trustquorummake_trust.l0 k n a2 y y.length i l p 0 (y.take i)) R
  | 0, i, hi => by
    obtain rfl : i = y.length := by omega
    rw [List.take_length]; exact h
  | d + 1, i, hi => by
    have hlt : i < y.length := by omega
    refine Ev.step (fun k => ?_) (mk_l0 n a2 y hy p h d (i + 1) (by omega))
    simp only [trustquorummake_trust.l0]
    rw [if_pos (by omega), if_pos (by omega), if_pos (by omega), if_pos (by rw [List.length_take]; omega), up (by omega), rd_get hlt, ← List.take_append_getElem hlt]
theorem mk_l1 {l : List Int} {n : Nat} {a2 : Nat} {y : List Int} (ha : a2 ≤ 100) (hy0 : 1 ≤ y.length) (hy : y.length ≤ 10) (hyn : ∀ x ∈ y, 0 ≤ x ∧ x < (n : Int)) (ih : ∀ p, TI l p → ∃ a ls ts q, Ev (fun k => trustquorummake_trust.f k l p n (a2 : Nat)) (a, ls, ts, q) ∧ SmN n a2 ⟨a, ls, ts⟩ ∧ TI l q) :
    ∀ (r : Nat) (p : Int) (ts : List TT), TI l p → ts.length + r ≤ 3 → (∀ c ∈ ts, SmN n a2 c) →
    ∃ a ls ts' q, Ev (fun k => trustquorummake_trust.l1 k n ((a2 + 1 : Nat) : Int) r l p 0 y ts) (a, ls, ts', q) ∧ SmN n (a2 + 1) ⟨a, ls, ts'⟩ ∧ TI l q
  | 0, p, ts, hp, hts, hs => by
    have w : wrap64 ((y.length : Int) + (ts.length : Int)) = (y.length : Int) + (ts.length : Int) := wrap_of (by omega) (by omega)
    by_cases c : (ts.length : Int) > 0
    · obtain ⟨b, q, e, b0, b1, hq⟩ := tape_N hp 3 (by omega) (by omega)
      by_cases cb : b = 0
      · obtain ⟨r, q2, e2, r0, r1, hq2⟩ := tape_Range hq 1 (wrap64 (ts.length : Int)) (by rw [wrap_of (by omega) (by omega)]; omega) (by omega) (by rw [wrap_of (by omega) (by omega)]; omega)
        refine ⟨r, [], ts, q2, Ev.step (f := fun _ => some _) (fun k => ?_) (Ev.now _), ⟨by simp, by omega, by simp, hs⟩, hq2⟩
        simp only [trustquorummake_trust.l1]
        rw [if_neg (by omega), if_pos c, e]
        simp only [Option.bind_some]
        rw [if_pos cb, e2]; rfl
      · obtain ⟨r, q2, e2, r0, r1, hq2⟩ := tape_Range hq 1 (wrap64 ((y.length : Int) + (ts.length : Int))) (by omega) (by omega) (by omega)
        refine ⟨r, y, ts, q2, Ev.step (f := fun _ => some _) (fun k => ?_) (Ev.now _), ⟨hy, by omega, hyn, hs⟩, hq2⟩
        simp only [trustquorummake_trust.l1]
        rw [if_neg (by omega), if_pos c, e]
        simp only [Option.bind_some]
        rw [if_neg cb, e2]; rfl
    · obtain ⟨r, q2, e2, r0, r1, hq2⟩ := tape_Range hp 1 (wrap64 ((y.length : Int) + (ts.length : Int))) (by omega) (by omega) (by omega)
      refine ⟨r, y, ts, q2, Ev.step (f := fun _ => some _) (fun k => ?_) (Ev.now _), ⟨hy, by omega, hyn, hs⟩, hq2⟩
      simp only [trustquorummake_trust.l1]
      rw [if_neg (by omega), if_neg c, e2]; rfl
  | r + 1, p, ts, hp, hts, hs => by
    obtain ⟨a, ls, us, q, e, hsm, hq⟩ := ih p hp
    obtain ⟨a', ls', ts', q', e', hsm', hq'⟩ := mk_l1 ha hy0 hy hyn ih r q (ts ++ [⟨a, ls, us⟩]) hq (by simp; omega) (by
      intro c hc
      rcases List.mem_append.1 hc with h | h
      · exact hs c h
      · rw [List.mem_singleton.1 h]; exact hsm)
    refine ⟨a', ls', ts', q', ?_, hsm', hq'⟩
    have w1 : wrap64 (((a2 + 1 : Nat) : Int) - 1) = (a2 : Int) := by rw [wrap_of (by omega) (by omega)]; omega
    have w2 : wrap64 (((r + 1 : Nat) : Int) - 1) = (r : Int) := by rw [wrap_of (by omega) (by omega)]; omega
    refine Ev.step (f := fun k => (trustquorummake_trust.f k l p n (a2 : Nat)).bind fun b => trustquorummake_trust.l1 k n ((a2 + 1 : Nat) : Int) r l b.2.2.2 0 y (ts ++ [⟨b.1, b.2.1, b.2.2.1⟩])) (fun k => ?_) (Ev.bind e e')
    simp only [trustquorummake_trust.l1]
    rw [if_pos (by omega), w1, w2]
    simp only [if_pos (show ts.length < 2513169434916 by omega)]
theorem mk_trust {l : List Int} {n : Nat} (h1 : 1 ≤ n) (hn : n ≤ 1000) : ∀ (a2 : Nat), a2 ≤ 100 → ∀ p, TI l p →
    ∃ a ls ts q, Ev (fun k => trustquorummake_trust.f k l p n ((a2 + 1 : Nat) : Int)) (a, ls, ts, q) ∧ SmN n (a2 + 1) ⟨a, ls, ts⟩ ∧ TI l q := by
  intro a2
  induction a2 with
  | zero =>
    intro _ p hp
    obtain ⟨o, q, eo, ho, hq⟩ := tape_Order hp n hn
    have hm : 1 ≤ mn (n : Int) 5 ∧ mn (n : Int) 5 ≤ 5 ∧ mn (n : Int) 5 ≤ n := by unfold mn; split <;> omega
    obtain ⟨m, q2, em, m0, m1, hq2⟩ := tape_Range hq 1 (mn (n : Int) 5) hm.1 (by omega) (by omega)
    have ol : o.length = n := by rw [ho.length_eq]; simp
    have on : ∀ x ∈ o.take m.toNat, 0 ≤ x ∧ x < (n : Int) := fun x hx => by
      have := ho.mem_iff.1 (List.mem_of_mem_take hx)
      obtain ⟨j, hj, rfl⟩ := List.mem_map.1 this
      have := List.mem_range.1 hj
      exact ⟨Int.natCast_nonneg j, by show (j : Int) < n; omega⟩
    have yl : (o.take m.toNat).length = m.toNat := by rw [List.length_take]; omega
    obtain ⟨r, q3, er, r0, r1, hq3⟩ := tape_Range hq2 1 (wrap64 (((o.take m.toNat).length : Int) + (([] : List TT).length : Int))) (by rw [List.length_nil, wrap_of (by omega) (by omega)]; omega) (by omega) (by rw [List.length_nil, wrap_of (by omega) (by omega)]; omega)
    refine ⟨r, o.take m.toNat, [], q3, ?_, ⟨by omega, by simp, on, by simp⟩, hq3⟩
    have hend : Ev (fun k => trustquorummake_trust.l0 k n ((0 + 1 : Nat) : Int) (o.take m.toNat) (o.take m.toNat).length ((o.take m.toNat).length : Nat) l q2 0 (o.take m.toNat)) (r, o.take m.toNat, ([] : List TT), q3) :=
      Ev.step (f := fun _ => some _) (fun k => by
        simp only [trustquorummake_trust.l0]
        rw [if_neg (by omega), if_neg (by omega), er]; rfl) (Ev.now _)
    have h0 := mk_l0 _ _ _ (by omega) _ hend (o.take m.toNat).length 0 (by omega)
    refine Ev.step (f := fun k => (trustquorummake_Tape_Order.f k l p n).bind fun b => (trustquorummake_Tape_Range.f l b.2 1 (mn n 5)).bind fun c => if 0 ≤ c.1 then if c.1 ≤ (b.1.length : Int) then trustquorummake_trust.l0 k n ((0 + 1 : Nat) : Int) (b.1.take c.1.toNat) (b.1.take c.1.toNat).length 0 l c.2 0 [] else none else none) (fun k => by simp only [trustquorummake_trust.f]; rfl) (Ev.bind eo (Ev.congr (fun k => ?_) h0))
    simp only [em, Option.bind_some]
    rw [if_pos (by omega), if_pos (by omega)]; rfl
  | succ a2 ih =>
    intro ha p hp
    obtain ⟨o, q, eo, ho, hq⟩ := tape_Order hp n hn
    have hm : 1 ≤ mn (n : Int) 5 ∧ mn (n : Int) 5 ≤ 5 ∧ mn (n : Int) 5 ≤ n := by unfold mn; split <;> omega
    obtain ⟨m, q2, em, m0, m1, hq2⟩ := tape_Range hq 1 (mn (n : Int) 5) hm.1 (by omega) (by omega)
    have ol : o.length = n := by rw [ho.length_eq]; simp
    have on : ∀ x ∈ o.take m.toNat, 0 ≤ x ∧ x < (n : Int) := fun x hx => by
      have := ho.mem_iff.1 (List.mem_of_mem_take hx)
      obtain ⟨j, hj, rfl⟩ := List.mem_map.1 this
      have := List.mem_range.1 hj
      exact ⟨Int.natCast_nonneg j, by show (j : Int) < n; omega⟩
    have yl : (o.take m.toNat).length = m.toNat := by rw [List.length_take]; omega
    obtain ⟨r, q3, er, hr, hq3⟩ := tape_Pick hq2 [0, 0, 1, 1, 2, 3] (by decide) (by decide)
    have hr3 : 0 ≤ r ∧ r ≤ 3 := by simp at hr; omega
    obtain ⟨r, rfl⟩ := Int.eq_ofNat_of_zero_le hr3.1
    obtain ⟨a, ls, ts, q4, e4, hs4, hq4⟩ := mk_l1 (n := n) (a2 := a2 + 1) (y := o.take m.toNat) (by omega) (by omega) (by omega) on (ih (by omega)) r q3 [] hq3 (by simp; omega) (by simp)
    refine ⟨a, ls, ts, q4, ?_, hs4, hq4⟩
    have hend : Ev (fun k => trustquorummake_trust.l0 k n ((a2 + 1 + 1 : Nat) : Int) (o.take m.toNat) (o.take m.toNat).length ((o.take m.toNat).length : Nat) l q2 0 (o.take m.toNat)) (a, ls, ts, q4) :=
      Ev.step (fun k => by
        simp only [trustquorummake_trust.l0]
        rw [if_neg (by omega), if_pos (by omega), er]; rfl) e4
    have h0 := mk_l0 _ _ _ (by omega) _ hend (o.take m.toNat).length 0 (by omega)
    refine Ev.step (f := fun k => (trustquorummake_Tape_Order.f k l p n).bind fun b => (trustquorummake_Tape_Range.f l b.2 1 (mn n 5)).bind fun c => if 0 ≤ c.1 then if c.1 ≤ (b.1.length : Int) then trustquorummake_trust.l0 k n ((a2 + 1 + 1 : Nat) : Int) (b.1.take c.1.toNat) (b.1.take c.1.toNat).length 0 l c.2 0 [] else none else none) (fun k => by simp only [trustquorummake_trust.f]; rfl) (Ev.bind eo (Ev.congr (fun k => ?_) h0))
    simp only [em, Option.bind_some]
    rw [if_pos (by omega), if_pos (by omega)]; rfl
theorem valid_one {x : Int} (hx : isNode x = true) : validT ⟨1, [x], []⟩ = 0 := by
  have e : (ofV 0 [x]).2 = 0 := by simp [ofV, hx]
  rw [validT, depthT_eq, sizeT_eq, chkT_eq]
  simp [hx, e, firstT]
theorem mk_Trust {l : List Int} {n : Nat} (h1 : 1 ≤ n) (hn : n ≤ 10) (a2 : Nat) (ha : a2 + 1 ≤ 8) {p : Int} (hp : TI l p) :
    ∃ a ls ts q, Ev (fun k => trustquorummake_Trust.f k l p n ((a2 + 1 : Nat) : Int)) (a, ls, ts, q) ∧ SmN n (a2 + 1) ⟨a, ls, ts⟩ ∧ validT ⟨a, ls, ts⟩ = 0 ∧ TI l q := by
  obtain ⟨a, ls, ts, q, e, hs, hq⟩ := mk_trust h1 (by omega) a2 (by omega) p hp
  have hv := refvalid_ev ha hs.smd
  by_cases c : validT ⟨a, ls, ts⟩ = 0
  · refine ⟨a, ls, ts, q, Ev.bind e (Ev.bind hv (Ev.congr (fun k => ?_) (Ev.now _))), hs, c, hq⟩
    rw [if_pos c]
  · obtain ⟨r, q2, er, r0, r1, hq2⟩ := tape_N hq (n : Int) (by omega) (by omega)
    have hr : isNode r = true := by simp [isNode]; omega
    refine ⟨1, [r], [], q2, Ev.bind e (Ev.bind hv (Ev.congr (fun k => ?_) (Ev.now _))), ⟨by simp, by simp, by simp; omega, by simp⟩, valid_one hr, hq2⟩
    simp only [if_neg c, er]; rfl
end Go.Proofs.Ytfkpimjiaijmgaa.Q
end
section
namespace Go.Proofs.Ytfkpimjiaijmgaa.Q
open Go.RowKit Go.Proofs.Ytfkpimjiaijmgaa.G Go.Proofs.YtfkpimjiaijmgaaW.PrintWords Go.Proofs.YtfkpimjiaijmgaaW.PrintLast Go.Proofs.YtfkpimjiaijmgaaW.PrintMore Go.Proofs.YtfkpimjiaijmgaaV
set_option linter.unusedVariables false
theorem ev_list {ι α : Type} {g : ι → Nat → Option α} {r : ι → α} : ∀ {l : List ι}, (∀ s ∈ l, Ev (g s) (r s)) → ∃ K, ∀ k, K ≤ k → ∀ s ∈ l, g s k = some (r s)
  | [], _ => ⟨0, fun _ _ s hs => by cases hs⟩
  | x :: l, h => by
    obtain ⟨K, hK⟩ := ev_list (l := l) fun s hs => h s (List.mem_cons_of_mem _ hs)
    obtain ⟨M, hM⟩ := h x (List.mem_cons_self ..)
    refine ⟨max K M, fun k hk s hs => ?_⟩
    rcases List.mem_cons.1 hs with rfl | hs
    · exact hM k (by omega)
    · exact hK k (by omega) s hs
theorem ev_filterO {ι : Type} {g : ι → Nat → Option Bool} {r : ι → Bool} {l : List ι} (h : ∀ s ∈ l, Ev (g s) (r s)) : Ev (fun k => filterO (fun s => g s k) l) (l.filter r) := by
  obtain ⟨K, hK⟩ := ev_list h
  exact ⟨K, fun k hk => filterO_of (hK k hk)⟩
def setsOf (p : Fin 1024 → Bool) : List Int := (allF.filter p).map fun s => (s.1 : Int)
theorem mem_sets {p : Fin 1024 → Bool} {x : Int} : x ∈ setsOf p ↔ ∃ s : Fin 1024, p s = true ∧ x = (s.1 : Int) := mem_setsOf
def minsT (t : TT) : List Int := leastL (setsOf fun s => satT t (s.1 : Int))
def blksT (t : TT) : List Int := leastL (setsOf fun s => isSet (s.1 : Int) && !satT t (1023 - (s.1 : Int)))
theorem slices_ev {d : Nat} (hd : d ≤ 8) {t : TT} (h : SmD d t) (hv : validT t = 0) : Ev (fun k => slices_Slices.f k t.f0 t.f1 t.f2) (minsT t, 0) := by
  refine Ev.congr (fun k => by unfold slices_Slices.f; rfl) (Ev.bind (valid_ev hd h) ?_)
  rw [hv]
  exact Ev.congr (fun k => if_pos rfl) (Ev.bind (ev_filterO (g := fun (s : Fin 1024) k => threshold_Satisfied.f k t.f0 t.f1 t.f2 (s.1 : Int)) fun s _ => sat_ev (s.1 : Int) h.sm) (Ev.now _))
theorem blocking_ev {d : Nat} (hd : d ≤ 8) {t : TT} (h : SmD d t) (hv : validT t = 0) : Ev (fun k => slices_Blocking.f k t.f0 t.f1 t.f2) (blksT t, 0) := by
  refine Ev.congr (fun k => by unfold slices_Blocking.f; rfl) (Ev.bind (valid_ev hd h) ?_)
  rw [hv]
  exact Ev.congr (fun k => if_pos rfl) (Ev.bind (ev_filterO (g := fun (s : Fin 1024) k => threshold_Blocked.f k t.f0 t.f1 t.f2 (s.1 : Int)) fun s _ => blk_ev (s.1 : Int) h.sm) (Ev.now _))
theorem subI_N {s u : Int} (h : subI s u = true) : subN s u := by
  intro i hi
  have h' := congrArg (fun z => z.testBit i) (beq_iff_eq.1 h)
  simp only [Nat.testBit_and, hi, Bool.true_and] at h'
  exact h'
theorem subI_of {s u : Int} (h : subN s u) : subI s u = true := by
  refine beq_iff_eq.2 (Nat.eq_of_testBit_eq fun i => ?_)
  rw [Nat.testBit_and]
  cases hs : s.toNat.testBit i with
  | false => rfl
  | true => rw [h i hs]; rfl
theorem least_some (p : Fin 1024 → Bool) (z : Fin 1024) (h : p z = true) : ∃ c ∈ leastL (setsOf p), subI c (z.1 : Int) = true := by
  unfold leastL
  exact keep_some _ [] _ ((sortSets_perm _).mem_iff.2 (List.mem_filter.2 ⟨mem_setsOf.2 ⟨z, h, rfl⟩, isSet_fin z⟩))
theorem least_in {p : Fin 1024 → Bool} {x : Int} (h : x ∈ leastL (setsOf p)) : ∃ s : Fin 1024, p s = true ∧ x = (s.1 : Int) := mem_setsOf.1 (mem_leastL.1 h).1
def Grows (p : Fin 1024 → Bool) : Prop := ∀ s u : Fin 1024, subN (s.1 : Int) (u.1 : Int) → p s = true → p u = true
theorem least_any {p : Fin 1024 → Bool} (hp : Grows p) (z : Fin 1024) : (leastL (setsOf p)).any (fun s => subI s (z.1 : Int)) = p z := by
  rw [Bool.eq_iff_iff, List.any_eq_true]
  constructor
  · rintro ⟨x, hx, hs⟩
    obtain ⟨s, h, rfl⟩ := least_in hx
    exact hp s z (subI_N hs) h
  · intro h
    exact least_some p z h
theorem sat_grows {t : TT} (ht : Sm t) : Grows fun s => satT t (s.1 : Int) := fun _ u h hs => sat_mono (isSet_fin u) h ht hs
theorem flip_bit {z : Nat} (hz : z < 1024) (i : Nat) : (1023 - z).testBit i = (decide (i < 10) && !z.testBit i) := by
  rw [show 1023 - z = 2 ^ 10 - (z + 1) by omega]
  exact Nat.testBit_two_pow_sub_succ (by omega) i
theorem and_flip {s z : Int} (hs : isSet s = true) (hz : isSet z = true) : (Go.bits .and .i64 s z != 0) = !subI s (1023 - z) := by
  obtain ⟨n, rfl, hn⟩ := isSet_nat hs
  obtain ⟨m, rfl, hm⟩ := isSet_nat hz
  rw [i64_and_nat n m (by omega) (by omega)]
  unfold subI
  rw [show (1023 - (m : Int)).toNat = 1023 - m by omega, Int.toNat_natCast, bne]
  refine congrArg (fun b => !b) ?_
  rw [Bool.eq_iff_iff]; simp only [beq_iff_eq]
  have e : ((n &&& m : Nat) : Int) = 0 ↔ n &&& m = 0 := by omega
  rw [e]
  constructor
  · intro h
    refine Nat.eq_of_testBit_eq fun i => ?_
    have := congrArg (fun z => z.testBit i) h
    simp only [Nat.testBit_and, Nat.zero_testBit] at this
    rw [Nat.testBit_and, flip_bit hm]
    cases hi : n.testBit i with
    | false => rfl
    | true =>
      have h10 : i < 10 := by
        rcases Nat.lt_or_ge i 10 with h | h
        · exact h
        · have := Nat.testBit_lt_two_pow (Nat.lt_of_lt_of_le (show n < 2 ^ 10 by omega) (Nat.pow_le_pow_right (by omega) h)); rw [hi] at this; cases this
      rw [hi] at this
      simp [h10, by simpa using this]
  · intro h
    refine Nat.eq_of_testBit_eq fun i => ?_
    have := congrArg (fun z => z.testBit i) h
    simp only [Nat.testBit_and, flip_bit hm] at this
    rw [Nat.testBit_and, Nat.zero_testBit]
    revert this
    cases n.testBit i <;> cases m.testBit i <;> simp
theorem keep_len : ∀ (l out : List Int), (keepLeast out l).length ≤ out.length + l.length
  | [], _ => by simp [keepLeast]
  | x :: l, out => by
    unfold keepLeast
    refine Nat.le_trans (keep_len l _) ?_
    split <;> simp <;> omega
theorem allF_len : allF.length = 1024 := by decide +kernel
theorem least_len (p : Fin 1024 → Bool) : (leastL (setsOf p)).length ≤ 1024 := by
  have h1 := keep_len (sortSets ((setsOf p).filter isSet)) []
  have h2 := (sortSets_perm ((setsOf p).filter isSet)).length_eq
  have h3 := List.length_filter_le isSet (setsOf p)
  have h4 := List.length_filter_le p allF
  have h5 : (setsOf p).length = (allF.filter p).length := by unfold setsOf; rw [List.length_map]
  have h6 := allF_len
  have h7 : ([] : List Int).length = 0 := rfl
  unfold leastL; omega
end Go.Proofs.Ytfkpimjiaijmgaa.Q
end
