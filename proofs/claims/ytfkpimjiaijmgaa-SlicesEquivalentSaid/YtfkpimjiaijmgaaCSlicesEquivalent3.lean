/- SlicesEquivalent: the texts of the claim, put together (part 4 of 7). The law is proved in the last one: it takes no condition beyond the statement's own. -/
import Derived.Deep.RegionLawGrows
import Derived.Laws.IdiomCopy
import Derived.Test.YtfkpimjiaijmgaaCSlicesEquivalent2
section
namespace Go.Proofs.Ytfkpimjiaijmgaa.G
open Go.RowKit Go.Proofs.YtfkpimjiaijmgaaW.PrintWords Go.Proofs.YtfkpimjiaijmgaaW.PrintLast Go.Proofs.YtfkpimjiaijmgaaW.PrintMore
attribute [local go_sem] max2_int min2_int max_two min_two max_three min_three max_four min_four   -- for this text's walks alone
set_option linter.unusedVariables false
set_option linter.unusedSimpArgs false
mutual
def trustquorumref04_Compare.l0 : Nat → Int → Int → List Int → List (S27) → Int → List Int → List (S27) → Option (Int)
 | 0, _, _, _, _, _, _, _ => none
 | k + 1, x6, x337000, x337001, x337002, x338000, x338001, x338002 => if x6 < (x337001.length : Int) then (trustquorumref04_Compare.j1 k x6 (decide (x6 < (x338001.length : Int))) x337000 x337001 x337002 x338000 x338001 x338002) else (trustquorumref04_Compare.j1 k x6 false x337000 x337001 x337002 x338000 x338001 x338002)
def trustquorumref04_Compare.j1 : Nat → Int → Bool → Int → List Int → List (S27) → Int → List Int → List (S27) → Option (Int)
 | 0, _, _, _, _, _, _, _, _ => none
 | k + 1, x6, x30, x337000, x337001, x337002, x338000, x338001, x338002 => if x30 = true then (if 0 ≤ x6 then (if x6 < (x337001.length : Int) then (if x6 < (x338001.length : Int) then ((trustquorumref04_sign.f (rd x337001 x6) (rd x338001 x6)).bind fun t341 => (if t341 = 0 then (trustquorumref04_Compare.l0 k (wrap64 (x6 + 1)) x337000 x337001 x337002 x338000 x338001 x338002) else (some t341))) else (none)) else (none)) else (none)) else ((trustquorumref04_sign.f (x337001.length : Int) (x338001.length : Int)).bind fun t342 => (if t342 = 0 then (trustquorumref04_Compare.l1 k 0 x337000 x337001 x337002 x338000 x338001 x338002) else (some t342)))
def trustquorumref04_Compare.l1 : Nat → Int → Int → List Int → List (S27) → Int → List Int → List (S27) → Option (Int)
 | 0, _, _, _, _, _, _, _ => none
 | k + 1, x9, x337000, x337001, x337002, x338000, x338001, x338002 => if x9 < (x337002.length : Int) then (trustquorumref04_Compare.j3 k x9 (decide (x9 < (x338002.length : Int))) x337000 x337001 x337002 x338000 x338001 x338002) else (trustquorumref04_Compare.j3 k x9 false x337000 x337001 x337002 x338000 x338001 x338002)
def trustquorumref04_Compare.j3 : Nat → Int → Bool → Int → List Int → List (S27) → Int → List Int → List (S27) → Option (Int)
 | 0, _, _, _, _, _, _, _, _ => none
 | k + 1, x9, x68, x337000, x337001, x337002, x338000, x338001, x338002 => if x68 = true then (if 0 ≤ x9 then (if x9 < (x337002.length : Int) then (if x9 < (x338002.length : Int) then ((trustquorumref04_Compare.f k ((rd_T27 x337002 x9).f0) ((rd_T27 x337002 x9).f1) ((rd_T27 x337002 x9).f2) ((rd_T27 x338002 x9).f0) ((rd_T27 x338002 x9).f1) ((rd_T27 x338002 x9).f2)).bind fun t345 => (if t345 = 0 then (trustquorumref04_Compare.l1 k (wrap64 (x9 + 1)) x337000 x337001 x337002 x338000 x338001 x338002) else (some t345))) else (none)) else (none)) else (none)) else ((trustquorumref04_sign.f (x337002.length : Int) (x338002.length : Int)).bind fun t346 => (some t346))
def trustquorumref04_Compare.f : Nat → Int → List Int → List (S27) → Int → List Int → List (S27) → Option (Int)
 | 0, _, _, _, _, _, _ => none
 | k + 1, a0_0, l0_1, l0_2, a1_0, l1_1, l1_2 => (trustquorumref04_sign.f a0_0 a1_0).bind fun t338 => (if t338 = 0 then (trustquorumref04_Compare.l0 k 0 a0_0 l0_1 l0_2 a1_0 l1_1 l1_2) else (some t338))
end
def trustquorumref04_Compare.T7 : Bool × List (List Nat × List Nat) := (true, [([], []), ([0], [0]), ([], []), ([1, 2], [1, 2]), ([3], [3]), ([], []), ([5], [5]), ([], []), ([6, 7], [6, 7]), ([8], [8]), ([4, 9], [4, 9]), ([10, 10, 0, 1, 2, 3, 4, 5, 6, 7, 8, 9, 10], [10])])
def trustquorumref04_Compare.B7 : List Nat := [0, 1, 0, 7, 15, 0, 32, 0, 224, 480, 1023, 2047]
theorem trustquorumref04_Compare.tab7 : rtab .any (opsOf Try.f68 7) = trustquorumref04_Compare.T7 := by kernel_rfl
theorem trustquorumref04_Compare.bits7 : waitsOk trustquorumref04_Compare.T7.2 trustquorumref04_Compare.B7 = true := by kernel_rfl
def trustquorumref04_Compare.T16 : Bool × List (List Nat × List Nat) := (true, [([], []), ([0], [0]), ([], []), ([1, 2], [1, 2]), ([3], [3]), ([], []), ([5], [5]), ([], []), ([6, 7], [6, 7]), ([8], [8]), ([4, 9], [4, 9]), ([10, 10, 0, 1, 2, 3, 4, 5, 6, 7, 8, 9, 10], [10])])
def trustquorumref04_Compare.B16 : List Nat := [0, 1, 0, 7, 15, 0, 32, 0, 224, 480, 1023, 2047]
theorem trustquorumref04_Compare.tab16 : rtab .any (opsOf Try.f68 16) = trustquorumref04_Compare.T16 := by kernel_rfl
theorem trustquorumref04_Compare.bits16 : waitsOk trustquorumref04_Compare.T16.2 trustquorumref04_Compare.B16 = true := by kernel_rfl
set_option maxHeartbeats 8000000 in
set_option maxRecDepth 100000 in
theorem trustquorumref04_Compare.calls (k : Nat) : ∀ (a0_0 : Int) (A0_1 : Option Addr) (c0_1 : Nat) (l0_1 : List Int) (A0_2 : Option Addr) (c0_2 : Nat) (l0_2 : List (S27)) (a1_0 : Int) (A1_1 : Option Addr) (c1_1 : Nat) (l1_1 : List Int) (A1_2 : Option Addr) (c1_2 : Nat) (l1_2 : List (S27)) (r : Int) (w : World) (hr0_1 : Kd.C (Kd.int .i64) w A0_1 l0_1.length l0_1) (hc0_1 : l0_1.length ≤ c0_1) (hr0_2 : Kd.C k27 w A0_2 l0_2.length l0_2) (hc0_2 : l0_2.length ≤ c0_2) (hr1_1 : Kd.C (Kd.int .i64) w A1_1 l1_1.length l1_1) (hc1_1 : l1_1.length ≤ c1_1) (hr1_2 : Kd.C k27 w A1_2 l1_2.length l1_2) (hc1_2 : l1_2.length ≤ c1_2) (h : trustquorumref04_Compare.f k a0_0 l0_1 l0_2 a1_0 l1_1 l1_2 = some r),
 Calls Try.prog 68 #[.agg #[.int .i64 a0_0, .slice A0_1 l0_1.length c0_1, .slice A0_2 l0_2.length c0_2], .agg #[.int .i64 a1_0, .slice A1_1 l1_1.length c1_1, .slice A1_2 l1_2.length c1_2]] w fun e w' => e = .returned (.int .i64 r) ∧ Below w.heap.size w w' := by
 induction k using Nat.strongRecOn with
 | _ k ih =>
 intro a0_0 A0_1 c0_1 l0_1 A0_2 c0_2 l0_2 a1_0 A1_1 c1_1 l1_1 A1_2 c1_2 l1_2 r w hr0_1 hc0_1 hr0_2 hc0_2 hr1_1 hc1_1 hr1_2 hc1_2 h
 cases k with
 | zero => exact absurd h (by simp [trustquorumref04_Compare.f])
 | succ k =>
 simp only [trustquorumref04_Compare.f] at h
 have hu27 := Try.underlying27
 have HR0_1 := Aside0.mk hr0_1
 have HC0_1 := Aside0.mk hc0_1
 clear hr0_1 hc0_1
 have HR0_2 := Aside0.mk hr0_2
 have HC0_2 := Aside0.mk hc0_2
 clear hr0_2 hc0_2
 have HR1_1 := Aside0.mk hr1_1
 have HC1_1 := Aside0.mk hc1_1
 clear hr1_1 hc1_1
 have HR1_2 := Aside0.mk hr1_2
 have HC1_2 := Aside0.mk hc1_2
 clear hr1_2 hc1_2
 have HB := Aside0.mk (Below.refl w.heap.size w)
 have H : ((trustquorumref04_sign.f a0_0 a1_0).bind fun t338 => (if t338 = 0 then (trustquorumref04_Compare.l0 k 0 a0_0 l0_1 l0_2 a1_0 l1_1 l1_2) else (some t338))) = some r := h
 clear h
 replace H := Option.bind_eq_some_iff.mp H
 obtain ⟨t338, A30, H⟩ := H
 replace H : (if t338 = 0 then (trustquorumref04_Compare.l0 k 0 a0_0 l0_1 l0_2 a1_0 l1_1 l1_2) else (some t338)) = some r := H
 have A3 := Aside0.mk A30
 clear A30
 by_cases c4 : t338 = 0
 ·rw [if_pos c4] at H
  have c4b0 : (t338 == 0) = true := beq_iff_eq.mpr c4
  have c4b1 : (t338 != 0) = false := bne_eq_false_iff_eq.mpr c4
  clear c4
  have H' := Aside0.mk H
  clear H
  go_enter Try.func68, Try.ntmps68
  go_wp2_with (first | ((with_reducible refine gate_dst (N := 2) rfl ?_); (try (refine gate_guard (by rfl) ?_; dsimp only)); refine box_event ?hg (N := 2) ?hd (cs := #[.int .i64 a0_0, .slice A0_1 l0_1.length c0_1, .slice A0_2 l0_2.length c0_2]) (t := 27) ?hr ?_; (case hd => rfl); (case hg => rfl); (case hr => first | (go_simp; done) | (go_simp; rfl)); intro gb336 hg w5 hbox hb; have BK336 := Aside0.mk (hbox); have GW336 := Aside0.mk ((by rw [hg]; exact (below_size (bB HB)) : w.heap.size ≤ gb336)); have GE336 := Aside0.mk ((by rw [hg]; exact (below_size (bB HB)) : w.heap.size ≤ gb336)); replace HB := bs HB hb; clear hb hbox hg) | ((with_reducible refine gate_dst (N := 3) rfl ?_); (try (refine gate_guard (by rfl) ?_; dsimp only)); refine box_event ?hg (N := 3) ?hd (cs := #[.int .i64 a1_0, .slice A1_1 l1_1.length c1_1, .slice A1_2 l1_2.length c1_2]) (t := 27) ?hr ?_; (case hd => rfl); (case hg => rfl); (case hr => first | (go_simp; done) | (go_simp; rfl)); intro gb337 hg w6 hbox hb; have BK337 := Aside0.mk (hbox); have GW337 := Aside0.mk ((by rw [hg]; exact (below_size (bB HB)) : w.heap.size ≤ gb337)); have GE337 := Aside0.mk ((by rw [hg]; exact (below_size (bB HB)) : w.heap.size ≤ gb337)); replace HB := bs HB hb; have NB336_337 := Aside0.mk ((by rw [hg]; exact Nat.ne_of_lt (blk_lt (bU BK336)) : gb336 ≠ gb337)); have NB337_336 := Aside0.mk ((by rw [hg]; exact Nat.ne_of_gt (blk_lt (bU BK336)) : gb337 ≠ gb336)); replace BK336 := bb BK336 hb; clear hb hbox hg; have hnb7 := NB336_337.out; have hnc7 := NB337_336.out; have hcz8_0 := bC0 BK336; have hcz8_1 := bC1 BK336; have hcz8_2 := bC2 BK336; have hfz8_0 := blk_frozen BK336.out 0; have hfz8_1 := blk_frozen BK336.out 1; have hfz8_2 := blk_frozen BK336.out 2; have hcz9_0 := bC0 BK337; have hcz9_1 := bC1 BK337; have hcz9_2 := bC2 BK337; have hfz9_0 := blk_frozen BK337.out 0; have hfz9_1 := blk_frozen BK337.out 1; have hfz9_2 := blk_frozen BK337.out 2) | ((with_reducible refine gate_callee (f := 76) rfl ?_); refine goesA_ (some 15) rfl rfl Try.func76 rfl #[.int .i64 a0_0, .int .i64 a1_0] rfl ?_; (with_reducible refine (trustquorumref04_sign.calls a0_0 a1_0 t338 _ A3.out).mono ?_); rintro e w' ⟨rfl, ⟨nd, rfl⟩⟩; refine ⟨_, rfl, ?_⟩))
  go_loopg [6] k (fun kq v6 w' => ∃ (x6_1 : Int), v6 = .int .i64 x6_1 ∧ Aside0 (trustquorumref04_Compare.l0 kq x6_1 a0_0 l0_1 l0_2 a1_0 l1_1 l1_2 = some r) ∧ Aside0 (kq ≤ k) ∧ Aside0 (w'.heap[gb336]? = some (.cells #[.int .i64 a0_0, (.slice A0_1 l0_1.length c0_1), (.slice A0_2 l0_2.length c0_2)] 27 (0, 0))) ∧ Aside0 (w'.heap[gb337]? = some (.cells #[.int .i64 a1_0, (.slice A1_1 l1_1.length c1_1), (.slice A1_2 l1_2.length c1_2)] 27 (0, 0))) ∧ Aside0 (Below w.heap.size w w'))
  case atStart => exact ⟨(0), (by first | rfl | (simp; done) | (simp [*]; done)), H', ⟨Nat.le_refl _⟩, ⟨bU BK336⟩, ⟨bU BK337⟩, ⟨bB HB⟩⟩
  case round =>
   clear H'
   try clear c1
   try clear p2
   try clear c4
   try clear c4b0
   try clear c4b1
   try clear c6
   try clear c7
   try clear hcz8_0
   try clear hcz8_1
   try clear hcz8_2
   try clear hcz9_0
   try clear hcz9_1
   try clear hcz9_2
   try clear hfz8_0
   try clear hfz8_1
   try clear hfz8_2
   try clear hfz9_0
   try clear hfz9_1
   try clear hfz9_2
   obtain ⟨x6_1, rfl, HA, HK1, BK336, BK337, HB⟩ := hrel
   cases gk with
   | zero => exact absurd HA.out (by simp [trustquorumref04_Compare.l0])
   | succ k1 =>
    have H := HA.out
    clear HA
    simp only [trustquorumref04_Compare.l0] at H
    have HC10 := Aside0.mk H
    clear H
    go_upto_region 5 with (fail)
    go_cut [30] (fun v30 wc => ∃ (kq : Nat) (x30_9 : Bool), v30 = .bool x30_9 ∧ Aside0 (trustquorumref04_Compare.j1 kq x6_1 x30_9 a0_0 l0_1 l0_2 a1_0 l1_1 l1_2 = some r) ∧ Aside0 (kq ≤ k1) ∧ Aside0 (wc.heap[gb336]? = some (.cells #[.int .i64 a0_0, (.slice A0_1 l0_1.length c0_1), (.slice A0_2 l0_2.length c0_2)] 27 (0, 0))) ∧ Aside0 (wc.heap[gb337]? = some (.cells #[.int .i64 a1_0, (.slice A1_1 l1_1.length c1_1), (.slice A1_2 l1_2.length c1_2)] 27 (0, 0))) ∧ Aside0 (Below w.heap.size w wc))
    case first =>
     have H := HC10.out
     clear HC10
     by_cases c11 : x6_1 < (l0_1.length : Int)
     ·rw [if_pos c11] at H
      have c11b0 : decide (x6_1 < (l0_1.length : Int)) = true := decide_eq_true c11
      clear c11
      (first | rw [c11b0] | (simp only [i64_w, i32_w]; rw [c11b0]) | skip)
      have H' := Aside0.mk H
      clear H
      have hnb12 := NB336_337.out
      have hnc12 := NB337_336.out
      have hcz13_0 := bC0 BK336
      have hcz13_1 := bC1 BK336
      have hcz13_2 := bC2 BK336
      have hfz13_0 := blk_frozen BK336.out 0
      have hfz13_1 := blk_frozen BK336.out 1
      have hfz13_2 := blk_frozen BK336.out 2
      have hcz14_0 := bC0 BK337
      have hcz14_1 := bC1 BK337
      have hcz14_2 := bC2 BK337
      have hfz14_0 := blk_frozen BK337.out 0
      have hfz14_1 := blk_frozen BK337.out 1
      have hfz14_2 := blk_frozen BK337.out 2
      go_wp2
      go_meet
      case rel => exact ⟨_, (decide (x6_1 < (l1_1.length : Int))), (by first | rfl | (simp; done) | (simp [*]; done)), H', ⟨by have := HK1.out; first | omega | exact Nat.le_refl _⟩, ⟨bU BK336⟩, ⟨bU BK337⟩, ⟨bB HB⟩⟩
     ·rw [if_neg c11] at H
      have c11b0 : decide (x6_1 < (l0_1.length : Int)) = false := decide_eq_false c11
      clear c11
      (first | rw [c11b0] | (simp only [i64_w, i32_w]; rw [c11b0]) | skip)
      have H' := Aside0.mk H
      clear H
      have hnb15 := NB336_337.out
      have hnc15 := NB337_336.out
      have hcz16_0 := bC0 BK336
      have hcz16_1 := bC1 BK336
      have hcz16_2 := bC2 BK336
      have hfz16_0 := blk_frozen BK336.out 0
      have hfz16_1 := blk_frozen BK336.out 1
      have hfz16_2 := blk_frozen BK336.out 2
      go_wp2
      go_meet
      case rel => exact ⟨_, (false), (by first | rfl | (simp; done) | (simp [*]; done)), H', ⟨by have := HK1.out; first | omega | exact Nat.le_refl _⟩, ⟨bU BK336⟩, ⟨bU BK337⟩, ⟨bB HB⟩⟩
    case rest =>
     clear HC10
     try clear c1
     try clear p2
     try clear c4
     try clear c4b0
     try clear c4b1
     try clear c6
     try clear c7
     try clear c11
     try clear c11b0
     try clear c12
     try clear c15
     try clear hcz13_0
     try clear hcz13_1
     try clear hcz13_2
     try clear hcz14_0
     try clear hcz14_1
     try clear hcz14_2
     try clear hcz16_0
     try clear hcz16_1
     try clear hcz16_2
     try clear hcz8_0
     try clear hcz8_1
     try clear hcz8_2
     try clear hcz9_0
     try clear hcz9_1
     try clear hcz9_2
     try clear hfz13_0
     try clear hfz13_1
     try clear hfz13_2
     try clear hfz14_0
     try clear hfz14_1
     try clear hfz14_2
     try clear hfz16_0
     try clear hfz16_1
     try clear hfz16_2
     try clear hfz8_0
     try clear hfz8_1
     try clear hfz8_2
     try clear hfz9_0
     try clear hfz9_1
     try clear hfz9_2
     try clear p2
     obtain ⟨kq, x30_9, rfl, HA, HJ9, BK336, BK337, HB⟩ := hcut
     cases kq with
     | zero => exact absurd HA.out (by simp [trustquorumref04_Compare.j1])
     | succ kj9 =>
      have H := HA.out
      clear HA
      simp only [trustquorumref04_Compare.j1] at H
      by_cases c17 : x30_9 = true
      ·subst c17
       have H1 : (if 0 ≤ x6_1 then (if x6_1 < (l0_1.length : Int) then (if x6_1 < (l1_1.length : Int) then ((trustquorumref04_sign.f (rd l0_1 x6_1) (rd l1_1 x6_1)).bind fun t341 => (if t341 = 0 then (trustquorumref04_Compare.l0 kj9 (wrap64 (x6_1 + 1)) a0_0 l0_1 l0_2 a1_0 l1_1 l1_2) else (some t341))) else (none)) else (none)) else (none)) = some r := by rw [if_pos rfl] at H; exact H
       clear H
       have H := H1
       clear H1
       by_cases c18 : 0 ≤ x6_1
       ·rw [if_pos c18] at H
        have c18b0 : decide (0 ≤ x6_1) = true := decide_eq_true c18
        clear c18
        by_cases c19 : x6_1 < (l0_1.length : Int)
        ·rw [if_pos c19] at H
         have c19b0 : decide (x6_1 < (l0_1.length : Int)) = true := decide_eq_true c19
         clear c19
         by_cases c20 : x6_1 < (l1_1.length : Int)
         ·rw [if_pos c20] at H
          have c20b0 : decide (x6_1 < (l1_1.length : Int)) = true := decide_eq_true c20
          clear c20
          replace H := Option.bind_eq_some_iff.mp H
          obtain ⟨t341, A210, H⟩ := H
          replace H : (if t341 = 0 then (trustquorumref04_Compare.l0 kj9 (wrap64 (x6_1 + 1)) a0_0 l0_1 l0_2 a1_0 l1_1 l1_2) else (some t341)) = some r := H
          have A21 := Aside0.mk A210
          clear A210
          by_cases c22 : t341 = 0
          ·rw [if_pos c22] at H
           have c22b0 : (t341 == 0) = true := beq_iff_eq.mpr c22
           have c22b1 : (t341 != 0) = false := bne_eq_false_iff_eq.mpr c22
           clear c22
           have H' := Aside0.mk H
           clear H
           try go_wp2
           replace BK336 := Aside0.mk (blk_drew BK336.out)
           replace BK337 := Aside0.mk (blk_drew BK337.out)
           replace HB := Aside0.mk (below_drew1 HB.out)
           have p339 : 0 ≤ (x6_1 : Int) := of_decide_eq_true (by first | (with_reducible assumption) | assumption)
           have q339 : x6_1 < (l0_1.length : Int) := of_decide_eq_true (by first | (with_reducible assumption) | assumption)
           obtain ⟨ad339, e339, hx339_0⟩ := Kd.at_int HR0_1.out x6_1 p339 q339
           have hw339_0 := hx339_0
           cases e339
           replace hx339_0 := (HB.out.cell (World.block_lt_of_cell? w _ hx339_0)).trans hx339_0
           replace p339 := eq_true p339
           replace q339 := eq_true q339
           have p340 : 0 ≤ (x6_1 : Int) := of_decide_eq_true (by first | (with_reducible assumption) | assumption)
           have q340 : x6_1 < (l1_1.length : Int) := of_decide_eq_true (by first | (with_reducible assumption) | assumption)
           obtain ⟨ad340, e340, hx340_0⟩ := Kd.at_int HR1_1.out x6_1 p340 q340
           have hw340_0 := hx340_0
           cases e340
           replace hx340_0 := (HB.out.cell (World.block_lt_of_cell? w _ hx340_0)).trans hx340_0
           replace p340 := eq_true p340
           replace q340 := eq_true q340
           refine start_ (n := 12) (S := fun w' => w'.cell? ⟨gb336, 0, none⟩ = some (.int .i64 a0_0) ∧ w'.cell? ⟨gb336, 1, none⟩ = some (.slice (some ad339) l0_1.length c0_1) ∧ w'.cell? ⟨gb336, 2, none⟩ = some (.slice A0_2 l0_2.length c0_2) ∧ w'.cell? ⟨gb337, 0, none⟩ = some (.int .i64 a1_0) ∧ w'.cell? ⟨gb337, 1, none⟩ = some (.slice (some ad340) l1_1.length c1_1) ∧ w'.cell? ⟨gb337, 2, none⟩ = some (.slice A1_2 l1_2.length c1_2) ∧ w'.cell? (ad339.add (x6_1).toNat) = some (.int .i64 (rd l0_1 x6_1)) ∧ w'.cell? (ad340.add (x6_1).toNat) = some (.int .i64 (rd l1_1 x6_1))) (ds := []) #[false, false, false, false, false, false, false, false, false, false, false, false] (by kernel_rfl) rfl rfl ⟨bC0 BK336, bC1 BK336, bC2 BK336, bC0 BK337, bC1 BK337, bC2 BK337, ((HB.out.cell (World.block_lt_of_cell? w _ hw339_0)).trans hw339_0), ((HB.out.cell (World.block_lt_of_cell? w _ hw340_0)).trans hw340_0)⟩ (fun hHeld => ?_); refine with_tabW trustquorumref04_Compare.tab7 trustquorumref04_Compare.bits7 (fun HT_ HW_ => ?_)
           generalize wc.drew = w23 at BK336 BK337 HB hx339_0 hx340_0 hHeld ⊢
           refine pureA_ 0 33 HT_ ?_
           refine pureA_ 2 35 HT_ ?_
           refine pureA_ 5 38 HT_ ?_
           refine pureA_ 7 40 HT_ ?_
           refine takeA_ 1 34 HT_ HW_ hHeld ?_
           refine pureA_ 3 36 HT_ ?_
           refine takeA_ 4 37 HT_ HW_ hHeld ?_
           refine takeA_ 6 39 HT_ HW_ hHeld ?_
           refine pureA_ 8 41 HT_ ?_
           refine takeA_ 9 42 HT_ HW_ hHeld ?_
           refine one_ (i := 10) (N := some 43) #[true, true, true, true, true, true, true, true, true, true, true, false] rfl rfl (one_of HT_.out (by kernel_rfl)) (by decide) (fun K hK => ?_)
           refine goes_ Try.func76 (by kernel_rfl) rfl #[.int .i64 (rd l0_1 x6_1), .int .i64 (rd l1_1 x6_1)] (by rfl) rfl rfl (by (try simp only [List.map_toArray, List.map_cons, List.map_nil]); first | done | rfl | (simp only [List.length_drop, List.length_take]; rfl)) ?_
           with_reducible refine (trustquorumref04_sign.calls (rd l0_1 x6_1) (rd l1_1 x6_1) t341 _ A21.out).mono ?_
           rintro e w' ⟨rfl, ⟨nd, rfl⟩⟩
           refine ⟨_, rfl, ?_⟩
           refine hK.out _ _ ⟨bC0 BK336, bC1 BK336, bC2 BK336, bC0 BK337, bC1 BK337, bC2 BK337, ((HB.out.cell (World.block_lt_of_cell? w _ hw339_0)).trans hw339_0), ((HB.out.cell (World.block_lt_of_cell? w _ hw340_0)).trans hw340_0)⟩ (fun hHeld => ?_)
           clear hK K
           refine normA_ ?_
           refine pureA_ 11 7 HT_ ?_
           refine done_ (done_of HT_.out (by kernel_rfl)) ?_
           try go_wp2
           go_roundg kj9
           case measure => have := HK1.out; have := HJ9.out; omega
           case rel => exact ⟨(wrap64 (x6_1 + 1)), (by first | rfl | (simp; done) | (simp [*]; done)), H', ⟨by have := HK1.out; have := HJ9.out; omega⟩, ⟨bU BK336⟩, ⟨bU BK337⟩, ⟨bB HB⟩⟩
          ·rw [if_neg c22] at H
           have c22b0 : (t341 == 0) = false := beq_eq_false_iff_ne.mpr c22
           have c22b1 : (t341 != 0) = true := bne_iff_ne.mpr c22
           obtain rfl := Option.some.inj H
           try go_wp2
           replace BK336 := Aside0.mk (blk_drew BK336.out)
           replace BK337 := Aside0.mk (blk_drew BK337.out)
           replace HB := Aside0.mk (below_drew1 HB.out)
           have p339 : 0 ≤ (x6_1 : Int) := of_decide_eq_true (by first | (with_reducible assumption) | assumption)
           have q339 : x6_1 < (l0_1.length : Int) := of_decide_eq_true (by first | (with_reducible assumption) | assumption)
           obtain ⟨ad339, e339, hx339_0⟩ := Kd.at_int HR0_1.out x6_1 p339 q339
           have hw339_0 := hx339_0
           cases e339
           replace hx339_0 := (HB.out.cell (World.block_lt_of_cell? w _ hx339_0)).trans hx339_0
           replace p339 := eq_true p339
           replace q339 := eq_true q339
           have p340 : 0 ≤ (x6_1 : Int) := of_decide_eq_true (by first | (with_reducible assumption) | assumption)
           have q340 : x6_1 < (l1_1.length : Int) := of_decide_eq_true (by first | (with_reducible assumption) | assumption)
           obtain ⟨ad340, e340, hx340_0⟩ := Kd.at_int HR1_1.out x6_1 p340 q340
           have hw340_0 := hx340_0
           cases e340
           replace hx340_0 := (HB.out.cell (World.block_lt_of_cell? w _ hx340_0)).trans hx340_0
           replace p340 := eq_true p340
           replace q340 := eq_true q340
           refine start_ (n := 12) (S := fun w' => w'.cell? ⟨gb336, 0, none⟩ = some (.int .i64 a0_0) ∧ w'.cell? ⟨gb336, 1, none⟩ = some (.slice (some ad339) l0_1.length c0_1) ∧ w'.cell? ⟨gb336, 2, none⟩ = some (.slice A0_2 l0_2.length c0_2) ∧ w'.cell? ⟨gb337, 0, none⟩ = some (.int .i64 a1_0) ∧ w'.cell? ⟨gb337, 1, none⟩ = some (.slice (some ad340) l1_1.length c1_1) ∧ w'.cell? ⟨gb337, 2, none⟩ = some (.slice A1_2 l1_2.length c1_2) ∧ w'.cell? (ad339.add (x6_1).toNat) = some (.int .i64 (rd l0_1 x6_1)) ∧ w'.cell? (ad340.add (x6_1).toNat) = some (.int .i64 (rd l1_1 x6_1))) (ds := []) #[false, false, false, false, false, false, false, false, false, false, false, false] (by kernel_rfl) rfl rfl ⟨bC0 BK336, bC1 BK336, bC2 BK336, bC0 BK337, bC1 BK337, bC2 BK337, ((HB.out.cell (World.block_lt_of_cell? w _ hw339_0)).trans hw339_0), ((HB.out.cell (World.block_lt_of_cell? w _ hw340_0)).trans hw340_0)⟩ (fun hHeld => ?_); refine with_tabW trustquorumref04_Compare.tab7 trustquorumref04_Compare.bits7 (fun HT_ HW_ => ?_)
           generalize wc.drew = w24 at BK336 BK337 HB hx339_0 hx340_0 hHeld ⊢
           refine pureA_ 0 33 HT_ ?_
           refine pureA_ 2 35 HT_ ?_
           refine pureA_ 5 38 HT_ ?_
           refine pureA_ 7 40 HT_ ?_
           refine takeA_ 1 34 HT_ HW_ hHeld ?_
           refine pureA_ 3 36 HT_ ?_
           refine takeA_ 4 37 HT_ HW_ hHeld ?_
           refine takeA_ 6 39 HT_ HW_ hHeld ?_
           refine pureA_ 8 41 HT_ ?_
           refine takeA_ 9 42 HT_ HW_ hHeld ?_
           refine one_ (i := 10) (N := some 43) #[true, true, true, true, true, true, true, true, true, true, true, false] rfl rfl (one_of HT_.out (by kernel_rfl)) (by decide) (fun K hK => ?_)
           refine goes_ Try.func76 (by kernel_rfl) rfl #[.int .i64 (rd l0_1 x6_1), .int .i64 (rd l1_1 x6_1)] (by rfl) rfl rfl (by (try simp only [List.map_toArray, List.map_cons, List.map_nil]); first | done | rfl | (simp only [List.length_drop, List.length_take]; rfl)) ?_
           with_reducible refine (trustquorumref04_sign.calls (rd l0_1 x6_1) (rd l1_1 x6_1) t341 _ A21.out).mono ?_
           rintro e w' ⟨rfl, ⟨nd, rfl⟩⟩
           refine ⟨_, rfl, ?_⟩
           refine hK.out _ _ ⟨bC0 BK336, bC1 BK336, bC2 BK336, bC0 BK337, bC1 BK337, bC2 BK337, ((HB.out.cell (World.block_lt_of_cell? w _ hw339_0)).trans hw339_0), ((HB.out.cell (World.block_lt_of_cell? w _ hw340_0)).trans hw340_0)⟩ (fun hHeld => ?_)
           clear hK K
           refine normA_ ?_
           refine pureA_ 11 7 HT_ ?_
           refine done_ (done_of HT_.out (by kernel_rfl)) ?_
           try go_wp2
           go_ret
           exact ⟨by first | rfl | (simp [errW_none, errW_some] <;> rfl) | (simp [*, errW_none, errW_some] <;> rfl), bB HB⟩
         ·rw [if_neg c20] at H
          exact absurd H (by simp)
        ·rw [if_neg c19] at H
         exact absurd H (by simp)
       ·rw [if_neg c18] at H
        exact absurd H (by simp)
      ·replace c17 := Bool.eq_false_iff.mpr c17
       subst c17
       have H1 : ((trustquorumref04_sign.f (l0_1.length : Int) (l1_1.length : Int)).bind fun t342 => (if t342 = 0 then (trustquorumref04_Compare.l1 kj9 0 a0_0 l0_1 l0_2 a1_0 l1_1 l1_2) else (some t342))) = some r := by rw [if_neg (show ¬ (false = true) by decide)] at H; exact H
       clear H
       have H := H1
       clear H1
       replace H := Option.bind_eq_some_iff.mp H
       obtain ⟨t342, A250, H⟩ := H
       replace H : (if t342 = 0 then (trustquorumref04_Compare.l1 kj9 0 a0_0 l0_1 l0_2 a1_0 l1_1 l1_2) else (some t342)) = some r := H
       have A25 := Aside0.mk A250
       clear A250
       by_cases c26 : t342 = 0
       ·rw [if_pos c26] at H
        have c26b0 : (t342 == 0) = true := beq_iff_eq.mpr c26
        have c26b1 : (t342 != 0) = false := bne_eq_false_iff_eq.mpr c26
        clear c26
        have H' := Aside0.mk H
        clear H
        have hnb27 := NB336_337.out
        have hnc27 := NB337_336.out
        have hcz28_0 := bC0 BK336
        have hcz28_1 := bC1 BK336
        have hcz28_2 := bC2 BK336
        have hfz28_0 := blk_frozen BK336.out 0
        have hfz28_1 := blk_frozen BK336.out 1
        have hfz28_2 := blk_frozen BK336.out 2
        have hcz29_0 := bC0 BK337
        have hcz29_1 := bC1 BK337
        have hcz29_2 := bC2 BK337
        have hfz29_0 := blk_frozen BK337.out 0
        have hfz29_1 := blk_frozen BK337.out 1
        have hfz29_2 := blk_frozen BK337.out 2
        go_wp2_with (first | ((with_reducible refine gate_callee (f := 76) rfl ?_); refine goesA_ (some 53) rfl rfl Try.func76 rfl #[.int .i64 (l0_1.length : Int), .int .i64 (l1_1.length : Int)] rfl ?_; (with_reducible refine (trustquorumref04_sign.calls (l0_1.length : Int) (l1_1.length : Int) t342 _ A25.out).mono ?_); rintro e w' ⟨rfl, ⟨nd, rfl⟩⟩; refine ⟨_, rfl, ?_⟩))
        go_loopg [9] kj9 (fun kq v9 w' => ∃ (x9_3 : Int), v9 = .int .i64 x9_3 ∧ Aside0 (trustquorumref04_Compare.l1 kq x9_3 a0_0 l0_1 l0_2 a1_0 l1_1 l1_2 = some r) ∧ Aside0 (kq ≤ kj9) ∧ Aside0 (w'.heap[gb336]? = some (.cells #[.int .i64 a0_0, (.slice A0_1 l0_1.length c0_1), (.slice A0_2 l0_2.length c0_2)] 27 (0, 0))) ∧ Aside0 (w'.heap[gb337]? = some (.cells #[.int .i64 a1_0, (.slice A1_1 l1_1.length c1_1), (.slice A1_2 l1_2.length c1_2)] 27 (0, 0))) ∧ Aside0 (Below w.heap.size w w'))
        case atStart => exact ⟨(0), (by first | rfl | (simp; done) | (simp [*]; done)), H', ⟨Nat.le_refl _⟩, ⟨bU BK336⟩, ⟨bU BK337⟩, ⟨bB HB⟩⟩
        case round =>
         clear H'
         try clear c1
         try clear c2
         try clear p2
         try clear p3
         try clear q3
         try clear hx3
         try clear c4
         try clear c4b0
         try clear c4b1
         try clear c6
         try clear p6
         try clear c7
         try clear c11
         try clear c11b0
         try clear c12
         try clear c15
         try clear c17
         try clear c18
         try clear c18b0
         try clear c19
         try clear c19b0
         try clear c20
         try clear c20b0
         try clear c22
         try clear c22b0
         try clear c22b1
         try clear c26
         try clear c26b0
         try clear c26b1
         try clear c27
         try clear hcz13_0
         try clear hcz13_1
         try clear hcz13_2
         try clear hcz14_0
         try clear hcz14_1
         try clear hcz14_2
         try clear hcz16_0
         try clear hcz16_1
         try clear hcz16_2
         try clear hcz28_0
         try clear hcz28_1
         try clear hcz28_2
         try clear hcz29_0
         try clear hcz29_1
         try clear hcz29_2
         try clear hcz8_0
         try clear hcz8_1
         try clear hcz8_2
         try clear hcz9_0
         try clear hcz9_1
         try clear hcz9_2
         try clear hfz13_0
         try clear hfz13_1
         try clear hfz13_2
         try clear hfz14_0
         try clear hfz14_1
         try clear hfz14_2
         try clear hfz16_0
         try clear hfz16_1
         try clear hfz16_2
         try clear hfz28_0
         try clear hfz28_1
         try clear hfz28_2
         try clear hfz29_0
         try clear hfz29_1
         try clear hfz29_2
         try clear hfz8_0
         try clear hfz8_1
         try clear hfz8_2
         try clear hfz9_0
         try clear hfz9_1
         try clear hfz9_2
         try clear hx339_0
         try clear hx340_0
         try clear p2
         try clear p339
         try clear p340
         try clear q339
         try clear q340
         obtain ⟨x9_3, rfl, HA, HK3, BK336, BK337, HB⟩ := hrel
         cases gk with
         | zero => exact absurd HA.out (by simp [trustquorumref04_Compare.l1])
         | succ k3 =>
          have H := HA.out
          clear HA
          simp only [trustquorumref04_Compare.l1] at H
          have HC30 := Aside0.mk H
          clear H
          go_upto_region 14 with (fail)
          go_cut [68] (fun v68 wc => ∃ (kq : Nat) (x68_29 : Bool), v68 = .bool x68_29 ∧ Aside0 (trustquorumref04_Compare.j3 kq x9_3 x68_29 a0_0 l0_1 l0_2 a1_0 l1_1 l1_2 = some r) ∧ Aside0 (kq ≤ k3) ∧ Aside0 (wc.heap[gb336]? = some (.cells #[.int .i64 a0_0, (.slice A0_1 l0_1.length c0_1), (.slice A0_2 l0_2.length c0_2)] 27 (0, 0))) ∧ Aside0 (wc.heap[gb337]? = some (.cells #[.int .i64 a1_0, (.slice A1_1 l1_1.length c1_1), (.slice A1_2 l1_2.length c1_2)] 27 (0, 0))) ∧ Aside0 (Below w.heap.size w wc))
          case first =>
           have H := HC30.out
           clear HC30
           by_cases c31 : x9_3 < (l0_2.length : Int)
           ·rw [if_pos c31] at H
            have c31b0 : decide (x9_3 < (l0_2.length : Int)) = true := decide_eq_true c31
            clear c31
            (first | rw [c31b0] | (simp only [i64_w, i32_w]; rw [c31b0]) | skip)
            have H' := Aside0.mk H
            clear H
            have hnb32 := NB336_337.out
            have hnc32 := NB337_336.out
            have hcz33_0 := bC0 BK336
            have hcz33_1 := bC1 BK336
            have hcz33_2 := bC2 BK336
            have hfz33_0 := blk_frozen BK336.out 0
            have hfz33_1 := blk_frozen BK336.out 1
            have hfz33_2 := blk_frozen BK336.out 2
            have hcz34_0 := bC0 BK337
            have hcz34_1 := bC1 BK337
            have hcz34_2 := bC2 BK337
            have hfz34_0 := blk_frozen BK337.out 0
            have hfz34_1 := blk_frozen BK337.out 1
            have hfz34_2 := blk_frozen BK337.out 2
            go_wp2
            go_meet
            case rel => exact ⟨_, (decide (x9_3 < (l1_2.length : Int))), (by first | rfl | (simp; done) | (simp [*]; done)), H', ⟨by have := HK1.out; have := HJ9.out; have := HK3.out; first | omega | exact Nat.le_refl _⟩, ⟨bU BK336⟩, ⟨bU BK337⟩, ⟨bB HB⟩⟩
           ·rw [if_neg c31] at H
            have c31b0 : decide (x9_3 < (l0_2.length : Int)) = false := decide_eq_false c31
            clear c31
            (first | rw [c31b0] | (simp only [i64_w, i32_w]; rw [c31b0]) | skip)
            have H' := Aside0.mk H
            clear H
            have hnb35 := NB336_337.out
            have hnc35 := NB337_336.out
            have hcz36_0 := bC0 BK336
            have hcz36_1 := bC1 BK336
            have hcz36_2 := bC2 BK336
            have hfz36_0 := blk_frozen BK336.out 0
            have hfz36_1 := blk_frozen BK336.out 1
            have hfz36_2 := blk_frozen BK336.out 2
            go_wp2
            go_meet
            case rel => exact ⟨_, (false), (by first | rfl | (simp; done) | (simp [*]; done)), H', ⟨by have := HK1.out; have := HJ9.out; have := HK3.out; first | omega | exact Nat.le_refl _⟩, ⟨bU BK336⟩, ⟨bU BK337⟩, ⟨bB HB⟩⟩
          case rest =>
           clear HC30
           try clear c1
           try clear c2
           try clear p2
           try clear c3
           try clear p3
           try clear q3
           try clear hx3
           try clear c4
           try clear c4b0
           try clear c4b1
           try clear c6
           try clear p6
           try clear c7
           try clear c11
           try clear c11b0
           try clear c12
           try clear c15
           try clear c17
           try clear c18
           try clear c18b0
           try clear c19
           try clear c19b0
           try clear c20
           try clear c20b0
           try clear c22
           try clear c22b0
           try clear c22b1
           try clear c26
           try clear c26b0
           try clear c26b1
           try clear c27
           try clear c31
           try clear c31b0
           try clear c32
           try clear p33
           try clear q33
           try clear hx33
           try clear p34
           try clear q34
           try clear hx34
           try clear c35
           try clear hcz13_0
           try clear hcz13_1
           try clear hcz13_2
           try clear hcz14_0
           try clear hcz14_1
           try clear hcz14_2
           try clear hcz16_0
           try clear hcz16_1
           try clear hcz16_2
           try clear hcz28_0
           try clear hcz28_1
           try clear hcz28_2
           try clear hcz29_0
           try clear hcz29_1
           try clear hcz29_2
           try clear hcz33_0
           try clear hcz33_1
           try clear hcz33_2
           try clear hcz34_0
           try clear hcz34_1
           try clear hcz34_2
           try clear hcz36_0
           try clear hcz36_1
           try clear hcz36_2
           try clear hcz8_0
           try clear hcz8_1
           try clear hcz8_2
           try clear hcz9_0
           try clear hcz9_1
           try clear hcz9_2
           try clear hfz13_0
           try clear hfz13_1
           try clear hfz13_2
           try clear hfz14_0
           try clear hfz14_1
           try clear hfz14_2
           try clear hfz16_0
           try clear hfz16_1
           try clear hfz16_2
           try clear hfz28_0
           try clear hfz28_1
           try clear hfz28_2
           try clear hfz29_0
           try clear hfz29_1
           try clear hfz29_2
           try clear hfz33_0
           try clear hfz33_1
           try clear hfz33_2
           try clear hfz34_0
           try clear hfz34_1
           try clear hfz34_2
           try clear hfz36_0
           try clear hfz36_1
           try clear hfz36_2
           try clear hfz8_0
           try clear hfz8_1
           try clear hfz8_2
           try clear hfz9_0
           try clear hfz9_1
           try clear hfz9_2
           try clear hx339_0
           try clear hx340_0
           try clear p2
           try clear p3
           try clear p339
           try clear p340
           try clear p6
           try clear q3
           try clear q339
           try clear q340
           obtain ⟨kq, x68_29, rfl, HA, HJ29, BK336, BK337, HB⟩ := hcut
           cases kq with
           | zero => exact absurd HA.out (by simp [trustquorumref04_Compare.j3])
           | succ kj29 =>
            have H := HA.out
            clear HA
            simp only [trustquorumref04_Compare.j3] at H
            by_cases c37 : x68_29 = true
            ·subst c37
             have H1 : (if 0 ≤ x9_3 then (if x9_3 < (l0_2.length : Int) then (if x9_3 < (l1_2.length : Int) then ((trustquorumref04_Compare.f kj29 ((rd_T27 l0_2 x9_3).f0) ((rd_T27 l0_2 x9_3).f1) ((rd_T27 l0_2 x9_3).f2) ((rd_T27 l1_2 x9_3).f0) ((rd_T27 l1_2 x9_3).f1) ((rd_T27 l1_2 x9_3).f2)).bind fun t345 => (if t345 = 0 then (trustquorumref04_Compare.l1 kj29 (wrap64 (x9_3 + 1)) a0_0 l0_1 l0_2 a1_0 l1_1 l1_2) else (some t345))) else (none)) else (none)) else (none)) = some r := by rw [if_pos rfl] at H; exact H
             clear H
             have H := H1
             clear H1
             by_cases c38 : 0 ≤ x9_3
             ·rw [if_pos c38] at H
              have c38b0 : decide (0 ≤ x9_3) = true := decide_eq_true c38
              clear c38
              by_cases c39 : x9_3 < (l0_2.length : Int)
              ·rw [if_pos c39] at H
               have c39b0 : decide (x9_3 < (l0_2.length : Int)) = true := decide_eq_true c39
               clear c39
               by_cases c40 : x9_3 < (l1_2.length : Int)
               ·rw [if_pos c40] at H
                have c40b0 : decide (x9_3 < (l1_2.length : Int)) = true := decide_eq_true c40
                clear c40
                replace H := Option.bind_eq_some_iff.mp H
                obtain ⟨t345, A410, H⟩ := H
                replace H : (if t345 = 0 then (trustquorumref04_Compare.l1 kj29 (wrap64 (x9_3 + 1)) a0_0 l0_1 l0_2 a1_0 l1_1 l1_2) else (some t345)) = some r := H
                have A41 := Aside0.mk A410
                clear A410
                by_cases c42 : t345 = 0
                ·rw [if_pos c42] at H
                 have c42b0 : (t345 == 0) = true := beq_iff_eq.mpr c42
                 have c42b1 : (t345 != 0) = false := bne_eq_false_iff_eq.mpr c42
                 clear c42
                 have H' := Aside0.mk H
                 clear H
                 try go_wp2
                 replace BK336 := Aside0.mk (blk_drew BK336.out)
                 replace BK337 := Aside0.mk (blk_drew BK337.out)
                 replace HB := Aside0.mk (below_drew1 HB.out)
                 have p343 : 0 ≤ (x9_3 : Int) := of_decide_eq_true (by first | (with_reducible assumption) | assumption)
                 have q343 : x9_3 < (l0_2.length : Int) := of_decide_eq_true (by first | (with_reducible assumption) | assumption)
                 obtain ⟨ad343, A343_1, c343_1, A343_2, c343_2, e343, hx343_0, hx343_1, hx343_2, hl343_1, hi343_1, hl343_2, hi343_2⟩ := at_T27 HR0_2.out x9_3 p343 q343
                 have hw343_2 := hx343_2
                 have hw343_1 := hx343_1
                 have hw343_0 := hx343_0
                 cases e343
                 replace hx343_0 := (HB.out.cell (World.block_lt_of_cell? w _ hx343_0)).trans hx343_0
                 replace hx343_1 := (HB.out.cell (World.block_lt_of_cell? w _ hx343_1)).trans hx343_1
                 replace hx343_2 := (HB.out.cell (World.block_lt_of_cell? w _ hx343_2)).trans hx343_2
                 have HR343_1 := Aside0.mk hi343_1
                 have HC343_1 := Aside0.mk hl343_1
                 clear hi343_1 hl343_1
                 have HR343_2 := Aside0.mk hi343_2
                 have HC343_2 := Aside0.mk hl343_2
                 clear hi343_2 hl343_2
                 replace p343 := eq_true p343
                 replace q343 := eq_true q343
                 have p344 : 0 ≤ (x9_3 : Int) := of_decide_eq_true (by first | (with_reducible assumption) | assumption)
                 have q344 : x9_3 < (l1_2.length : Int) := of_decide_eq_true (by first | (with_reducible assumption) | assumption)
                 obtain ⟨ad344, A344_1, c344_1, A344_2, c344_2, e344, hx344_0, hx344_1, hx344_2, hl344_1, hi344_1, hl344_2, hi344_2⟩ := at_T27 HR1_2.out x9_3 p344 q344
                 have hw344_2 := hx344_2
                 have hw344_1 := hx344_1
                 have hw344_0 := hx344_0
                 cases e344
                 replace hx344_0 := (HB.out.cell (World.block_lt_of_cell? w _ hx344_0)).trans hx344_0
                 replace hx344_1 := (HB.out.cell (World.block_lt_of_cell? w _ hx344_1)).trans hx344_1
                 replace hx344_2 := (HB.out.cell (World.block_lt_of_cell? w _ hx344_2)).trans hx344_2
                 have HR344_1 := Aside0.mk hi344_1
                 have HC344_1 := Aside0.mk hl344_1
                 clear hi344_1 hl344_1
                 have HR344_2 := Aside0.mk hi344_2
                 have HC344_2 := Aside0.mk hl344_2
                 clear hi344_2 hl344_2
                 replace p344 := eq_true p344
                 replace q344 := eq_true q344
                 refine start_ (n := 12) (S := fun w' => w'.cell? ⟨gb336, 0, none⟩ = some (.int .i64 a0_0) ∧ w'.cell? ⟨gb336, 1, none⟩ = some (.slice A0_1 l0_1.length c0_1) ∧ w'.cell? ⟨gb336, 2, none⟩ = some (.slice (some ad343) l0_2.length c0_2) ∧ w'.cell? ⟨gb337, 0, none⟩ = some (.int .i64 a1_0) ∧ w'.cell? ⟨gb337, 1, none⟩ = some (.slice A1_1 l1_1.length c1_1) ∧ w'.cell? ⟨gb337, 2, none⟩ = some (.slice (some ad344) l1_2.length c1_2) ∧ w'.cell? (ad343.add ((x9_3).toNat * 3)) = some (.int .i64 ((rd_T27 l0_2 x9_3).f0)) ∧ w'.cell? ⟨(ad343.add ((x9_3).toNat * 3)).block, (ad343.add ((x9_3).toNat * 3)).off + 1, none⟩ = some (.slice A343_1 ((rd_T27 l0_2 x9_3).f1).length c343_1) ∧ w'.cell? ⟨(ad343.add ((x9_3).toNat * 3)).block, (ad343.add ((x9_3).toNat * 3)).off + 2, none⟩ = some (.slice A343_2 ((rd_T27 l0_2 x9_3).f2).length c343_2) ∧ w'.cell? (ad344.add ((x9_3).toNat * 3)) = some (.int .i64 ((rd_T27 l1_2 x9_3).f0)) ∧ w'.cell? ⟨(ad344.add ((x9_3).toNat * 3)).block, (ad344.add ((x9_3).toNat * 3)).off + 1, none⟩ = some (.slice A344_1 ((rd_T27 l1_2 x9_3).f1).length c344_1) ∧ w'.cell? ⟨(ad344.add ((x9_3).toNat * 3)).block, (ad344.add ((x9_3).toNat * 3)).off + 2, none⟩ = some (.slice A344_2 ((rd_T27 l1_2 x9_3).f2).length c344_2)) (ds := []) #[false, false, false, false, false, false, false, false, false, false, false, false] (by kernel_rfl) rfl rfl ⟨bC0 BK336, bC1 BK336, bC2 BK336, bC0 BK337, bC1 BK337, bC2 BK337, ((HB.out.cell (World.block_lt_of_cell? w _ hw343_0)).trans hw343_0), ((HB.out.cell (World.block_lt_of_cell? w _ hw343_1)).trans hw343_1), ((HB.out.cell (World.block_lt_of_cell? w _ hw343_2)).trans hw343_2), ((HB.out.cell (World.block_lt_of_cell? w _ hw344_0)).trans hw344_0), ((HB.out.cell (World.block_lt_of_cell? w _ hw344_1)).trans hw344_1), ((HB.out.cell (World.block_lt_of_cell? w _ hw344_2)).trans hw344_2)⟩ (fun hHeld => ?_); refine with_tabW trustquorumref04_Compare.tab16 trustquorumref04_Compare.bits16 (fun HT_ HW_ => ?_)
                 generalize wc.drew = w43 at BK336 BK337 HB HR343_1 HR343_2 HR344_1 HR344_2 hx343_0 hx343_1 hx343_2 hx344_0 hx344_1 hx344_2 hHeld ⊢
                 refine pureA_ 0 71 HT_ ?_
                 refine pureA_ 2 73 HT_ ?_
                 refine pureA_ 5 76 HT_ ?_
                 refine pureA_ 7 78 HT_ ?_
                 refine takeA_ 1 72 HT_ HW_ hHeld ?_
                 refine pureA_ 3 74 HT_ ?_
                 refine takeA_ 4 75 HT_ HW_ hHeld ?_
                 refine takeA_ 6 77 HT_ HW_ hHeld ?_
                 refine pureA_ 8 79 HT_ ?_
                 refine takeA_ 9 80 HT_ HW_ hHeld ?_
                 refine one_ (i := 10) (N := some 81) #[true, true, true, true, true, true, true, true, true, true, true, false] rfl rfl (one_of HT_.out (by kernel_rfl)) (by decide) (fun K hK => ?_)
                 refine goes_ Try.func68 (by kernel_rfl) rfl #[.agg #[.int .i64 ((rd_T27 l0_2 x9_3).f0), .slice A343_1 ((rd_T27 l0_2 x9_3).f1).length c343_1, .slice A343_2 ((rd_T27 l0_2 x9_3).f2).length c343_2], .agg #[.int .i64 ((rd_T27 l1_2 x9_3).f0), .slice A344_1 ((rd_T27 l1_2 x9_3).f1).length c344_1, .slice A344_2 ((rd_T27 l1_2 x9_3).f2).length c344_2]] (by rfl) rfl rfl (by (try simp only [List.map_toArray, List.map_cons, List.map_nil]); first | done | rfl | (simp only [List.length_drop, List.length_take]; rfl)) ?_
                 with_reducible refine (ih kj29 (by have := HK1.out; have := HJ9.out; have := HK3.out; have := HJ29.out; omega) ((rd_T27 l0_2 x9_3).f0) _ _ ((rd_T27 l0_2 x9_3).f1) _ _ ((rd_T27 l0_2 x9_3).f2) ((rd_T27 l1_2 x9_3).f0) _ _ ((rd_T27 l1_2 x9_3).f1) _ _ ((rd_T27 l1_2 x9_3).f2) t345 _ ?side1 ?side2 ?side3 ?side4 ?side5 ?side6 ?side7 ?side8 A41.out).mono ?_
                 (case side1 => exact Kd.uC (Kd.C_below HR343_1.out HB.out))
                 (case side2 => exact HC343_1.out)
                 (case side3 => exact Kd.uC (Kd.C_below HR343_2.out HB.out))
                 (case side4 => exact HC343_2.out)
                 (case side5 => exact Kd.uC (Kd.C_below HR344_1.out HB.out))
                 (case side6 => exact HC344_1.out)
                 (case side7 => exact Kd.uC (Kd.C_below HR344_2.out HB.out))
                 (case side8 => exact HC344_2.out)
                 rintro e w44 ⟨rfl, hb⟩
                 refine ⟨_, rfl, ?_⟩
                 replace BK336 := bb BK336 hb
                 replace BK337 := bb BK337 hb
                 replace HB := bs HB hb
                 (try clear hb)
                 (try clear hb2)
                 (try clear hk)
                 (try clear hi)
                 refine hK.out _ _ ⟨bC0 BK336, bC1 BK336, bC2 BK336, bC0 BK337, bC1 BK337, bC2 BK337, ((HB.out.cell (World.block_lt_of_cell? w _ hw343_0)).trans hw343_0), ((HB.out.cell (World.block_lt_of_cell? w _ hw343_1)).trans hw343_1), ((HB.out.cell (World.block_lt_of_cell? w _ hw343_2)).trans hw343_2), ((HB.out.cell (World.block_lt_of_cell? w _ hw344_0)).trans hw344_0), ((HB.out.cell (World.block_lt_of_cell? w _ hw344_1)).trans hw344_1), ((HB.out.cell (World.block_lt_of_cell? w _ hw344_2)).trans hw344_2)⟩ (fun hHeld => ?_)
                 clear hK K
                 refine normA_ ?_
                 refine pureA_ 11 10 HT_ ?_
                 refine done_ (done_of HT_.out (by kernel_rfl)) ?_
                 try go_wp2
                 go_roundg kj29
                 case measure => have := HK1.out; have := HJ9.out; have := HK3.out; have := HJ29.out; omega
                 case rel => exact ⟨(wrap64 (x9_3 + 1)), (by first | rfl | (simp; done) | (simp [*]; done)), H', ⟨by have := HK1.out; have := HJ9.out; have := HK3.out; have := HJ29.out; omega⟩, ⟨bU BK336⟩, ⟨bU BK337⟩, ⟨bB HB⟩⟩
                ·rw [if_neg c42] at H
                 have c42b0 : (t345 == 0) = false := beq_eq_false_iff_ne.mpr c42
                 have c42b1 : (t345 != 0) = true := bne_iff_ne.mpr c42
                 obtain rfl := Option.some.inj H
                 try go_wp2
                 replace BK336 := Aside0.mk (blk_drew BK336.out)
                 replace BK337 := Aside0.mk (blk_drew BK337.out)
                 replace HB := Aside0.mk (below_drew1 HB.out)
                 have p343 : 0 ≤ (x9_3 : Int) := of_decide_eq_true (by first | (with_reducible assumption) | assumption)
                 have q343 : x9_3 < (l0_2.length : Int) := of_decide_eq_true (by first | (with_reducible assumption) | assumption)
                 obtain ⟨ad343, A343_1, c343_1, A343_2, c343_2, e343, hx343_0, hx343_1, hx343_2, hl343_1, hi343_1, hl343_2, hi343_2⟩ := at_T27 HR0_2.out x9_3 p343 q343
                 have hw343_2 := hx343_2
                 have hw343_1 := hx343_1
                 have hw343_0 := hx343_0
                 cases e343
                 replace hx343_0 := (HB.out.cell (World.block_lt_of_cell? w _ hx343_0)).trans hx343_0
                 replace hx343_1 := (HB.out.cell (World.block_lt_of_cell? w _ hx343_1)).trans hx343_1
                 replace hx343_2 := (HB.out.cell (World.block_lt_of_cell? w _ hx343_2)).trans hx343_2
                 have HR343_1 := Aside0.mk hi343_1
                 have HC343_1 := Aside0.mk hl343_1
                 clear hi343_1 hl343_1
                 have HR343_2 := Aside0.mk hi343_2
                 have HC343_2 := Aside0.mk hl343_2
                 clear hi343_2 hl343_2
                 replace p343 := eq_true p343
                 replace q343 := eq_true q343
                 have p344 : 0 ≤ (x9_3 : Int) := of_decide_eq_true (by first | (with_reducible assumption) | assumption)
                 have q344 : x9_3 < (l1_2.length : Int) := of_decide_eq_true (by first | (with_reducible assumption) | assumption)
                 obtain ⟨ad344, A344_1, c344_1, A344_2, c344_2, e344, hx344_0, hx344_1, hx344_2, hl344_1, hi344_1, hl344_2, hi344_2⟩ := at_T27 HR1_2.out x9_3 p344 q344
                 have hw344_2 := hx344_2
                 have hw344_1 := hx344_1
                 have hw344_0 := hx344_0
                 cases e344
                 replace hx344_0 := (HB.out.cell (World.block_lt_of_cell? w _ hx344_0)).trans hx344_0
                 replace hx344_1 := (HB.out.cell (World.block_lt_of_cell? w _ hx344_1)).trans hx344_1
                 replace hx344_2 := (HB.out.cell (World.block_lt_of_cell? w _ hx344_2)).trans hx344_2
                 have HR344_1 := Aside0.mk hi344_1
                 have HC344_1 := Aside0.mk hl344_1
                 clear hi344_1 hl344_1
                 have HR344_2 := Aside0.mk hi344_2
                 have HC344_2 := Aside0.mk hl344_2
                 clear hi344_2 hl344_2
                 replace p344 := eq_true p344
                 replace q344 := eq_true q344
                 refine start_ (n := 12) (S := fun w' => w'.cell? ⟨gb336, 0, none⟩ = some (.int .i64 a0_0) ∧ w'.cell? ⟨gb336, 1, none⟩ = some (.slice A0_1 l0_1.length c0_1) ∧ w'.cell? ⟨gb336, 2, none⟩ = some (.slice (some ad343) l0_2.length c0_2) ∧ w'.cell? ⟨gb337, 0, none⟩ = some (.int .i64 a1_0) ∧ w'.cell? ⟨gb337, 1, none⟩ = some (.slice A1_1 l1_1.length c1_1) ∧ w'.cell? ⟨gb337, 2, none⟩ = some (.slice (some ad344) l1_2.length c1_2) ∧ w'.cell? (ad343.add ((x9_3).toNat * 3)) = some (.int .i64 ((rd_T27 l0_2 x9_3).f0)) ∧ w'.cell? ⟨(ad343.add ((x9_3).toNat * 3)).block, (ad343.add ((x9_3).toNat * 3)).off + 1, none⟩ = some (.slice A343_1 ((rd_T27 l0_2 x9_3).f1).length c343_1) ∧ w'.cell? ⟨(ad343.add ((x9_3).toNat * 3)).block, (ad343.add ((x9_3).toNat * 3)).off + 2, none⟩ = some (.slice A343_2 ((rd_T27 l0_2 x9_3).f2).length c343_2) ∧ w'.cell? (ad344.add ((x9_3).toNat * 3)) = some (.int .i64 ((rd_T27 l1_2 x9_3).f0)) ∧ w'.cell? ⟨(ad344.add ((x9_3).toNat * 3)).block, (ad344.add ((x9_3).toNat * 3)).off + 1, none⟩ = some (.slice A344_1 ((rd_T27 l1_2 x9_3).f1).length c344_1) ∧ w'.cell? ⟨(ad344.add ((x9_3).toNat * 3)).block, (ad344.add ((x9_3).toNat * 3)).off + 2, none⟩ = some (.slice A344_2 ((rd_T27 l1_2 x9_3).f2).length c344_2)) (ds := []) #[false, false, false, false, false, false, false, false, false, false, false, false] (by kernel_rfl) rfl rfl ⟨bC0 BK336, bC1 BK336, bC2 BK336, bC0 BK337, bC1 BK337, bC2 BK337, ((HB.out.cell (World.block_lt_of_cell? w _ hw343_0)).trans hw343_0), ((HB.out.cell (World.block_lt_of_cell? w _ hw343_1)).trans hw343_1), ((HB.out.cell (World.block_lt_of_cell? w _ hw343_2)).trans hw343_2), ((HB.out.cell (World.block_lt_of_cell? w _ hw344_0)).trans hw344_0), ((HB.out.cell (World.block_lt_of_cell? w _ hw344_1)).trans hw344_1), ((HB.out.cell (World.block_lt_of_cell? w _ hw344_2)).trans hw344_2)⟩ (fun hHeld => ?_); refine with_tabW trustquorumref04_Compare.tab16 trustquorumref04_Compare.bits16 (fun HT_ HW_ => ?_)
                 generalize wc.drew = w45 at BK336 BK337 HB HR343_1 HR343_2 HR344_1 HR344_2 hx343_0 hx343_1 hx343_2 hx344_0 hx344_1 hx344_2 hHeld ⊢
                 refine pureA_ 0 71 HT_ ?_
                 refine pureA_ 2 73 HT_ ?_
                 refine pureA_ 5 76 HT_ ?_
                 refine pureA_ 7 78 HT_ ?_
                 refine takeA_ 1 72 HT_ HW_ hHeld ?_
                 refine pureA_ 3 74 HT_ ?_
                 refine takeA_ 4 75 HT_ HW_ hHeld ?_
                 refine takeA_ 6 77 HT_ HW_ hHeld ?_
                 refine pureA_ 8 79 HT_ ?_
                 refine takeA_ 9 80 HT_ HW_ hHeld ?_
                 refine one_ (i := 10) (N := some 81) #[true, true, true, true, true, true, true, true, true, true, true, false] rfl rfl (one_of HT_.out (by kernel_rfl)) (by decide) (fun K hK => ?_)
                 refine goes_ Try.func68 (by kernel_rfl) rfl #[.agg #[.int .i64 ((rd_T27 l0_2 x9_3).f0), .slice A343_1 ((rd_T27 l0_2 x9_3).f1).length c343_1, .slice A343_2 ((rd_T27 l0_2 x9_3).f2).length c343_2], .agg #[.int .i64 ((rd_T27 l1_2 x9_3).f0), .slice A344_1 ((rd_T27 l1_2 x9_3).f1).length c344_1, .slice A344_2 ((rd_T27 l1_2 x9_3).f2).length c344_2]] (by rfl) rfl rfl (by (try simp only [List.map_toArray, List.map_cons, List.map_nil]); first | done | rfl | (simp only [List.length_drop, List.length_take]; rfl)) ?_
                 with_reducible refine (ih kj29 (by have := HK1.out; have := HJ9.out; have := HK3.out; have := HJ29.out; omega) ((rd_T27 l0_2 x9_3).f0) _ _ ((rd_T27 l0_2 x9_3).f1) _ _ ((rd_T27 l0_2 x9_3).f2) ((rd_T27 l1_2 x9_3).f0) _ _ ((rd_T27 l1_2 x9_3).f1) _ _ ((rd_T27 l1_2 x9_3).f2) t345 _ ?side1 ?side2 ?side3 ?side4 ?side5 ?side6 ?side7 ?side8 A41.out).mono ?_
                 (case side1 => exact Kd.uC (Kd.C_below HR343_1.out HB.out))
                 (case side2 => exact HC343_1.out)
                 (case side3 => exact Kd.uC (Kd.C_below HR343_2.out HB.out))
                 (case side4 => exact HC343_2.out)
                 (case side5 => exact Kd.uC (Kd.C_below HR344_1.out HB.out))
                 (case side6 => exact HC344_1.out)
                 (case side7 => exact Kd.uC (Kd.C_below HR344_2.out HB.out))
                 (case side8 => exact HC344_2.out)
                 rintro e w46 ⟨rfl, hb⟩
                 refine ⟨_, rfl, ?_⟩
                 replace BK336 := bb BK336 hb
                 replace BK337 := bb BK337 hb
                 replace HB := bs HB hb
                 (try clear hb)
                 (try clear hb2)
                 (try clear hk)
                 (try clear hi)
                 refine hK.out _ _ ⟨bC0 BK336, bC1 BK336, bC2 BK336, bC0 BK337, bC1 BK337, bC2 BK337, ((HB.out.cell (World.block_lt_of_cell? w _ hw343_0)).trans hw343_0), ((HB.out.cell (World.block_lt_of_cell? w _ hw343_1)).trans hw343_1), ((HB.out.cell (World.block_lt_of_cell? w _ hw343_2)).trans hw343_2), ((HB.out.cell (World.block_lt_of_cell? w _ hw344_0)).trans hw344_0), ((HB.out.cell (World.block_lt_of_cell? w _ hw344_1)).trans hw344_1), ((HB.out.cell (World.block_lt_of_cell? w _ hw344_2)).trans hw344_2)⟩ (fun hHeld => ?_)
                 clear hK K
                 refine normA_ ?_
                 refine pureA_ 11 10 HT_ ?_
                 refine done_ (done_of HT_.out (by kernel_rfl)) ?_
                 try go_wp2
                 go_ret
                 exact ⟨by first | rfl | (simp [errW_none, errW_some] <;> rfl) | (simp [*, errW_none, errW_some] <;> rfl), bB HB⟩
               ·rw [if_neg c40] at H
                exact absurd H (by simp)
              ·rw [if_neg c39] at H
               exact absurd H (by simp)
             ·rw [if_neg c38] at H
              exact absurd H (by simp)
            ·replace c37 := Bool.eq_false_iff.mpr c37
             subst c37
             have H1 : ((trustquorumref04_sign.f (l0_2.length : Int) (l1_2.length : Int)).bind fun t346 => (some t346)) = some r := by rw [if_neg (show ¬ (false = true) by decide)] at H; exact H
             clear H
             have H := H1
             clear H1
             replace H := Option.bind_eq_some_iff.mp H
             obtain ⟨t346, A470, H⟩ := H
             replace H : (some t346) = some r := H
             have A47 := Aside0.mk A470
             clear A470
             obtain rfl := Option.some.inj H
             have hnb48 := NB336_337.out
             have hnc48 := NB337_336.out
             have hcz49_0 := bC0 BK336
             have hcz49_1 := bC1 BK336
             have hcz49_2 := bC2 BK336
             have hfz49_0 := blk_frozen BK336.out 0
             have hfz49_1 := blk_frozen BK336.out 1
             have hfz49_2 := blk_frozen BK336.out 2
             have hcz50_0 := bC0 BK337
             have hcz50_1 := bC1 BK337
             have hcz50_2 := bC2 BK337
             have hfz50_0 := blk_frozen BK337.out 0
             have hfz50_1 := blk_frozen BK337.out 1
             have hfz50_2 := blk_frozen BK337.out 2
             go_wp2_with (first | ((with_reducible refine gate_callee (f := 76) rfl ?_); refine goesA_ (some 91) rfl rfl Try.func76 rfl #[.int .i64 (l0_2.length : Int), .int .i64 (l1_2.length : Int)] rfl ?_; (with_reducible refine (trustquorumref04_sign.calls (l0_2.length : Int) (l1_2.length : Int) t346 _ A47.out).mono ?_); rintro e w' ⟨rfl, ⟨nd, rfl⟩⟩; refine ⟨_, rfl, ?_⟩))
             go_ret
             exact ⟨by first | rfl | (simp [errW_none, errW_some] <;> rfl) | (simp [*, errW_none, errW_some] <;> rfl), bB HB⟩
       ·rw [if_neg c26] at H
        have c26b0 : (t342 == 0) = false := beq_eq_false_iff_ne.mpr c26
        have c26b1 : (t342 != 0) = true := bne_iff_ne.mpr c26
        obtain rfl := Option.some.inj H
        have hnb51 := NB336_337.out
        have hnc51 := NB337_336.out
        have hcz52_0 := bC0 BK336
        have hcz52_1 := bC1 BK336
        have hcz52_2 := bC2 BK336
        have hfz52_0 := blk_frozen BK336.out 0
        have hfz52_1 := blk_frozen BK336.out 1
        have hfz52_2 := blk_frozen BK336.out 2
        have hcz53_0 := bC0 BK337
        have hcz53_1 := bC1 BK337
        have hcz53_2 := bC2 BK337
        have hfz53_0 := blk_frozen BK337.out 0
        have hfz53_1 := blk_frozen BK337.out 1
        have hfz53_2 := blk_frozen BK337.out 2
        go_wp2_with (first | ((with_reducible refine gate_callee (f := 76) rfl ?_); refine goesA_ (some 53) rfl rfl Try.func76 rfl #[.int .i64 (l0_1.length : Int), .int .i64 (l1_1.length : Int)] rfl ?_; (with_reducible refine (trustquorumref04_sign.calls (l0_1.length : Int) (l1_1.length : Int) t342 _ A25.out).mono ?_); rintro e w' ⟨rfl, ⟨nd, rfl⟩⟩; refine ⟨_, rfl, ?_⟩))
        go_ret
        exact ⟨by first | rfl | (simp [errW_none, errW_some] <;> rfl) | (simp [*, errW_none, errW_some] <;> rfl), bB HB⟩
 ·rw [if_neg c4] at H
  have c4b0 : (t338 == 0) = false := beq_eq_false_iff_ne.mpr c4
  have c4b1 : (t338 != 0) = true := bne_iff_ne.mpr c4
  obtain rfl := Option.some.inj H
  go_enter Try.func68, Try.ntmps68
  go_wp2_with (first | ((with_reducible refine gate_dst (N := 2) rfl ?_); (try (refine gate_guard (by rfl) ?_; dsimp only)); refine box_event ?hg (N := 2) ?hd (cs := #[.int .i64 a0_0, .slice A0_1 l0_1.length c0_1, .slice A0_2 l0_2.length c0_2]) (t := 27) ?hr ?_; (case hd => rfl); (case hg => rfl); (case hr => first | (go_simp; done) | (go_simp; rfl)); intro gb336 hg w54 hbox hb; have BK336 := Aside0.mk (hbox); have GW336 := Aside0.mk ((by rw [hg]; exact (below_size (bB HB)) : w.heap.size ≤ gb336)); have GE336 := Aside0.mk ((by rw [hg]; exact (below_size (bB HB)) : w.heap.size ≤ gb336)); replace HB := bs HB hb; clear hb hbox hg) | ((with_reducible refine gate_dst (N := 3) rfl ?_); (try (refine gate_guard (by rfl) ?_; dsimp only)); refine box_event ?hg (N := 3) ?hd (cs := #[.int .i64 a1_0, .slice A1_1 l1_1.length c1_1, .slice A1_2 l1_2.length c1_2]) (t := 27) ?hr ?_; (case hd => rfl); (case hg => rfl); (case hr => first | (go_simp; done) | (go_simp; rfl)); intro gb337 hg w55 hbox hb; have BK337 := Aside0.mk (hbox); have GW337 := Aside0.mk ((by rw [hg]; exact (below_size (bB HB)) : w.heap.size ≤ gb337)); have GE337 := Aside0.mk ((by rw [hg]; exact (below_size (bB HB)) : w.heap.size ≤ gb337)); replace HB := bs HB hb; have NB336_337 := Aside0.mk ((by rw [hg]; exact Nat.ne_of_lt (blk_lt (bU BK336)) : gb336 ≠ gb337)); have NB337_336 := Aside0.mk ((by rw [hg]; exact Nat.ne_of_gt (blk_lt (bU BK336)) : gb337 ≠ gb336)); replace BK336 := bb BK336 hb; clear hb hbox hg; have hnb56 := NB336_337.out; have hnc56 := NB337_336.out; have hcz57_0 := bC0 BK336; have hcz57_1 := bC1 BK336; have hcz57_2 := bC2 BK336; have hfz57_0 := blk_frozen BK336.out 0; have hfz57_1 := blk_frozen BK336.out 1; have hfz57_2 := blk_frozen BK336.out 2; have hcz58_0 := bC0 BK337; have hcz58_1 := bC1 BK337; have hcz58_2 := bC2 BK337; have hfz58_0 := blk_frozen BK337.out 0; have hfz58_1 := blk_frozen BK337.out 1; have hfz58_2 := blk_frozen BK337.out 2) | ((with_reducible refine gate_callee (f := 76) rfl ?_); refine goesA_ (some 15) rfl rfl Try.func76 rfl #[.int .i64 a0_0, .int .i64 a1_0] rfl ?_; (with_reducible refine (trustquorumref04_sign.calls a0_0 a1_0 t338 _ A3.out).mono ?_); rintro e w' ⟨rfl, ⟨nd, rfl⟩⟩; refine ⟨_, rfl, ?_⟩))
  go_ret
  exact ⟨by first | rfl | (simp [errW_none, errW_some] <;> rfl) | (simp [*, errW_none, errW_some] <;> rfl), bB HB⟩
end Go.Proofs.Ytfkpimjiaijmgaa.G
end
section
namespace Go.Proofs.Ytfkpimjiaijmgaa.G
open Go.RowKit Go.Proofs.YtfkpimjiaijmgaaW.PrintWords Go.Proofs.YtfkpimjiaijmgaaW.PrintLast Go.Proofs.YtfkpimjiaijmgaaW.PrintMore
attribute [local go_sem] max2_int min2_int max_two min_two max_three min_three max_four min_four   -- for this text's walks alone
set_option linter.unusedVariables false
set_option linter.unusedSimpArgs false
section
set_option maxRecDepth 100000
abbrev RT := S27
open Kd in
/-- append(l[:n:n], x) where l is read (shared): a row of the call's own comes back. -/
theorem F_append_step {α : Type} (d : Kd α) {P : Program} {ops : Array Oper} {o : Oper} {a : Act} {Q : Exit → Act → World → Prop} {Kc : Act → World → Prop} {W : World} (hg : o.guard = none) (s x : Operand) (t e : TypeId) (z : Value) (bytes : Nat) {E : Prop}
 (ho : o.op = .call { callee := .builtin .append, args := #[s, x], argTypes := #[t, t] }) (ht : P.underlying t = some (.slice e)) (hinfo : (P.info? e).map (fun i => (i.zero, i.size, i.bytes)) = some (some z, d.sz, bytes)) (h6 : z.cells.size = d.sz) (h7 : 0 < d.sz) (hb0 : 0 < bytes)
 (A : Option Addr) (xs : List α) (p : α) (cs : List Value) (ok okp : Nat → Prop) (hs : a.eval s = .slice A xs.length xs.length) (hx : a.eval x = .slice (some ⟨W.heap.size, 0, none⟩) 1 1) (hp : FK d W okp p cs) (H : F d W ok A xs.length xs) (hl : (xs.length + 1) * bytes ≤ 140737488355328)
 (h : ∀ v1 w1, N d e w1 W.heap.size (fun k => ok k ∨ okp k ∨ W.heap.size ≤ k) v1 (xs ++ [p]) → Below W.heap.size W w1 → Kc (a.put o.dst v1) w1) :
 if Region.wanted o (yielded ops a.tmps) = true then Oper.wp P o a (W.alloc (.cells cs.toArray e)) Kc Q else E := by
 obtain ⟨i, h2, hzz⟩ := Option.map_eq_some_iff.1 hinfo
 simp only [Prod.mk.injEq] at hzz
 obtain ⟨h3, h4, h5⟩ := hzz
 have H' := F_alloc H (.cells cs.toArray e)
 have hlen : xs.length + 1 ≤ 140737488355328 := Nat.le_trans (Nat.le_mul_of_pos_right _ hb0) hl
 obtain ⟨news, hnl, hnr, hnf⟩ := reads_raw (F_rows H') (fun y c hk => ⟨d.K_len (FK_now hk), d.K_one (FK_now hk)⟩)
 have hcl := d.K_len (FK_now hp)
 obtain ⟨olds, ho1, ho2⟩ : ∃ olds, Reps (fun x cs => cs = x ∧ cs.length = d.sz ∧ ∀ u ∈ cs, u.oneCell' = true) d.sz news olds ∧ ∀ b, A = some b → ∀ j u, olds[j]? = some u → (W.alloc (.cells cs.toArray e)).cell? (b.add j) = some u := by
  cases A with
  | some b =>
   obtain ⟨inner, hr, hc⟩ := ReadsRow.inner_ hnr
   exact ⟨inner, hr, fun b' hb => by injection hb with hb; subst hb; exact hc⟩
  | none =>
   have : xs.length = 0 := by
    rcases Nat.eq_zero_or_pos xs.length with h0 | h0
    ·exact h0
    ·obtain ⟨ad, he, _⟩ := hnr.2.2 h0
     cases he
   have hn : news = [] := List.eq_nil_of_length_eq_zero (hnl.trans this)
   subst hn
   exact ⟨[], Reps.none _ _, fun b hb => by cases hb⟩
 refine step_append_grows hg s x t ho e i z d.sz bytes ht h2 h3 h4 h5 h6 h7 A xs.length xs.length olds hs (fun hA => ?_) (by rw [ho1.1, hnl]) ho2 ⟨W.heap.size, 0, none⟩ 1 1 cs hx (by rw [hcl, Nat.one_mul]) (by simpa using World.news_of_block (cs := cs.toArray) (t := e) (fr := (0, 0)) (heap_alloc_new W (.cells cs.toArray e))) (d.K_one (FK_now hp)) (Nat.lt_succ_self _) (by simp only [maxLen]; omega) hl ?_
 ·subst hA
  rcases Nat.eq_zero_or_pos xs.length with h0 | h0
  ·exact ⟨h0, h0⟩
  ·obtain ⟨ad, he, _⟩ := hnr.2.2 h0
   cases he
 ·intro v1 w1 hown hgr
  have hsz : (W.alloc (.cells cs.toArray e)).heap.size = W.heap.size + 1 := by simp
  rw [hsz] at hown
  have hB : Below W.heap.size W w1 := ((Below.refl _ W).alloc (Nat.le_refl _) _).grown hgr (by simp) (by intro k hk; cases hk)
  have hne : ∀ k, k < W.heap.size + 1 → some k ≠ v1.ownBlock := fun k hk he => by have := own_base hown k he.symm; omega
  have hpa : FK d (W.alloc (.cells cs.toArray e)) okp p cs := FK_below hp (below_alloc (Below.refl _ _) _)
  refine h v1 w1 ⟨fun k hk => .inr (.inr (by have := own_base hown k hk; omega)), news ++ [cs], by rw [List.length_append, List.length_append, hnl]; rfl, ⟨fun k hk => hk.symm, olds ++ cs, by rw [List.length_append, hnl]; exact own_weaken hown (Nat.le_succ _), ho1.snoc ⟨rfl, hcl, d.K_one (FK_now hp)⟩ hcl⟩, fun j y c hy hc => ?_⟩ hB
  have key : ∀ {y : α} {c : List Value} {o : Nat → Prop}, FK d (W.alloc (.cells cs.toArray e)) o y c → (∀ k, o k → ok k ∨ okp k ∨ W.heap.size ≤ k) → FK d w1 (fun k => (ok k ∨ okp k ∨ W.heap.size ≤ k) ∧ some k ≠ v1.ownBlock) y c := fun hq hi => FK_mono (FK_step (FK_bound hq) (fun k hk hlt => hgr.block k hlt (by simp))) (fun k hk => ⟨hi k hk.1, hne k (by have := hk.2; omega)⟩)
  rcases Nat.lt_or_ge j xs.length with hj | hj
  ·rw [List.getElem?_append_left hj] at hy
   rw [List.getElem?_append_left (by omega)] at hc
   exact key (hnf j y c hy hc) (fun k hk => .inl hk)
  ·rw [List.getElem?_append_right hj] at hy
   rw [List.getElem?_append_right (by omega), hnl] at hc
   rcases Nat.eq_zero_or_pos (j - xs.length) with h0 | h0
   ·rw [h0] at hy hc
    injection hy with hy
    injection hc with hc
    subst hy; subst hc
    exact key hpa (fun k hk => .inr (.inl hk))
   ·rw [List.getElem?_eq_none (by simpa using Nat.succ_le_of_lt h0)] at hy
    cases hy
/-- An element of a row that is read: its cells; what they lead to lies in ok. -/
theorem at_FT {w : World} {ok : Nat → Prop} {A : Option Addr} {n : Nat} {xs : List RT} (h : Kd.F k27 w ok A n xs) (i : Int) (h0 : 0 ≤ i) (h1 : i < n) : ∃ ad A1 c1 A2 c2, A = some ad ∧ w.cell? (ad.add (i.toNat * 3)) = some (.int .i64 (rd_T27 xs i).f0) ∧ w.cell? ⟨(ad.add (i.toNat * 3)).block, (ad.add (i.toNat * 3)).off + 1, none⟩ = some (.slice A1 (rd_T27 xs i).f1.length c1) ∧ w.cell? ⟨(ad.add (i.toNat * 3)).block, (ad.add (i.toNat * 3)).off + 2, none⟩ = some (.slice A2 (rd_T27 xs i).f2.length c2) ∧ (rd_T27 xs i).f1.length ≤ c1 ∧ Kd.F (Kd.int .i64) w ok A1 (rd_T27 xs i).f1.length (rd_T27 xs i).f1 ∧ (rd_T27 xs i).f2.length ≤ c2 ∧ Kd.F k27 w ok A2 (rd_T27 xs i).f2.length (rd_T27 xs i).f2 := by
 obtain ⟨ad, c, e, _, hK, hc0, _⟩ := Kd.F_get h z27 i h0 h1
 have hc : ∀ j u, c[j]? = some u → w.cell? (ad.add (i.toNat * 3 + j)) = some u := hc0
 obtain ⟨A1, c1, A2, c2, rfl, l1, g1, l2, g2⟩ := k27_openF hK
 exact ⟨ad, A1, c1, A2, c2, e, hc 0 _ rfl, by rw [← add_field _ _ 1 (by omega)]; exact hc 1 _ rfl, by rw [← add_field _ _ 2 (by omega)]; exact hc 2 _ rfl, l1, g1, l2, g2⟩
def rwithL (k : Nat) (t : RT) : List RT → Option Bool
 | [] => some false
 | x :: r => (trustquorumref04_Compare.f k x.f0 x.f1 x.f2 t.f0 t.f1 t.f2).bind fun c => if c = 0 then some true else rwithL k t r
def rwith (k : Nat) (l : List RT) (t : RT) : Option (List RT) := (rwithL k t l).bind fun b => some (if b = true then l else l ++ [t])
theorem rwithL_step {k : Nat} {t : RT} {L : List RT} {i : Nat} (h : i < L.length) : rwithL k t (L.drop i) = (trustquorumref04_Compare.f k (rd_T27 L i).f0 (rd_T27 L i).f1 (rd_T27 L i).f2 t.f0 t.f1 t.f2).bind fun c => if c = 0 then some true else rwithL k t (L.drop (i + 1)) := by
 rw [List.drop_eq_getElem_cons h]
 have e : rd_T27 L (i : Int) = L[i] := by unfold rd_T27; rw [Int.toNat_natCast, List.getD_eq_getElem?_getD, List.getElem?_eq_getElem h]; rfl
 rw [rwithL, e]
set_option maxHeartbeats 1000000 in
theorem with_walk (k : Nat) (ok : Nat → Prop) (A0 : Option Addr) (c0 : Nat) (l0 : List RT) (t : RT) (A1 : Option Addr) (c1 : Nat) (A2 : Option Addr) (c2 : Nat) (r : List RT) (w : World) (h0 : Kd.F k27 w ok A0 l0.length l0) (hc0 : l0.length ≤ c0)
 (h1 : Kd.F (Kd.int .i64) w ok A1 t.f1.length t.f1) (hc1 : t.f1.length ≤ c1) (h2 : Kd.F k27 w ok A2 t.f2.length t.f2) (hc2 : t.f2.length ≤ c2) (hl : l0.length < 1073741824) (h : rwith k l0 t = some r) :
 Calls Try.prog 67 #[.slice A0 l0.length c0, .agg #[.int .i64 t.f0, .slice A1 t.f1.length c1, .slice A2 t.f2.length c2]] w fun e w' => ∃ A c, e = .returned (.slice A r.length c) ∧ r.length ≤ c ∧ Kd.F k27 w' (fun g => ok g ∨ w.heap.size ≤ g) A r.length r ∧ Below w.heap.size w w' := by
 have hu := Try.underlying27
 unfold rwith at h
 obtain ⟨b, hb, h⟩ := Option.bind_eq_some_iff.1 h
 have H0 := Aside0.mk h0
 have H1 := Aside0.mk h1
 have H2 := Aside0.mk h2
 have HL := Aside0.mk hl
 have HR := Aside0.mk (Option.some.inj h)
 have HBb := Aside0.mk hb
 have HC0 := Aside0.mk hc0
 have HC1 := Aside0.mk hc1
 have HC2 := Aside0.mk hc2
 clear h0 h1 h2 hl h hb hc0 hc1 hc2
 obtain ⟨ob, hob⟩ : ∃ ob : Obj, ob = .cells #[.int .i64 t.f0, .slice A1 t.f1.length c1, .slice A2 t.f2.length c2] 27 := ⟨_, rfl⟩
 have HOB := Aside0.mk hob
 go_enter Try.func67, Try.ntmps67
 go_wp2_with fail
 rw [← HOB.out]
 clear hob
 go_loopg [9] l0.length (fun gq v9 wr => ∃ i : Nat, gq = l0.length - i ∧ v9 = .int .i64 i ∧ i ≤ l0.length ∧ Aside0 (rwithL k t (l0.drop i) = some b) ∧ Aside0 (Below (w.alloc ob).heap.size (w.alloc ob) wr))
 case atStart => exact ⟨0, rfl, rfl, Nat.zero_le _, HBb, ⟨Below.refl _ _⟩⟩
 case round =>
  obtain ⟨i, rfl, rfl, hi, HK, HBr⟩ := hrel
  have hbx := HBr.out.block w.heap.size (by simp)
  rw [heap_alloc_new, HOB.out] at hbx
  have HBX := Aside0.mk hbx
  clear hbx
  have HW := Aside0.mk ((below_alloc (Below.refl w.heap.size w) ob).trans (HBr.out.mono (by simp)))
  by_cases hlt : i < l0.length
  ·obtain ⟨ad, B1, d1, B2, d2, eA, x0, x1, x2, g1, f1, g2, f2⟩ := at_FT (Kd.F_below H0.out HW.out) (i : Int) (by omega) (by omega)
   subst eA
   simp only [Int.toNat_natCast] at x0 x1 x2
   have hk := HK.out
   rw [rwithL_step hlt] at hk
   generalize rd_T27 l0 (i : Int) = x at x0 x1 x2 g1 f1 g2 f2 hk
   have F1 := Aside0.mk f1
   have F2 := Aside0.mk f2
   have G1 := Aside0.mk g1
   have G2 := Aside0.mk g2
   obtain ⟨c, hcc, hk⟩ := Option.bind_eq_some_iff.1 hk
   have HCC := Aside0.mk hcc
   have HK2 := Aside0.mk hk
   clear f1 f2 g1 g2 hk hcc HK
   have hlw : w.heap.size < wr.heap.size := Nat.lt_of_lt_of_le (by simp) HBr.out.size
   have y0 : ∀ o, (wr.alloc o).cell? ⟨w.heap.size, 0, none⟩ = some (.int .i64 t.f0) := fun o => ((below_alloc (Below.refl _ wr) o).cell (p := ⟨w.heap.size, 0, none⟩) hlw).trans ((blk_cell HBX.out 0).trans rfl)
   have y1 : ∀ o, (wr.alloc o).cell? ⟨w.heap.size, 1, none⟩ = some (.slice A1 t.f1.length c1) := fun o => ((below_alloc (Below.refl _ wr) o).cell (p := ⟨w.heap.size, 1, none⟩) hlw).trans ((blk_cell HBX.out 1).trans rfl)
   have y2 : ∀ o, (wr.alloc o).cell? ⟨w.heap.size, 2, none⟩ = some (.slice A2 t.f2.length c2) := fun o => ((below_alloc (Below.refl _ wr) o).cell (p := ⟨w.heap.size, 2, none⟩) hlw).trans ((blk_cell HBX.out 2).trans rfl)
   clear hlw
   by_cases hc0 : c = 0
   ·subst hc0
    rw [if_pos rfl] at HK2
    go_wp2_with (first | (go_at_call 68; (refine (trustquorumref04_Compare.calls k x.f0 B1 d1 x.f1 B2 d2 x.f2 t.f0 A1 c1 t.f1 A2 c2 t.f2 0 _ (Kd.C_alloc (Kd.F_now F1.out) _) G1.out (Kd.C_alloc (Kd.F_now F2.out) _) G2.out (Kd.C_alloc (Kd.C_below (Kd.F_now H1.out) HW.out) _) HC1.out (Kd.C_alloc (Kd.C_below (Kd.F_now H2.out) HW.out) _) HC2.out HCC.out).mono ?_); rintro e w2 ⟨rfl, hb⟩; have HB2 := Aside0.mk ((below_alloc HW.out _).trans (hb.mono (Nat.le_trans HW.out.size (by simp)))); clear hb))
    go_ret
    have eb := Option.some.inj HK2.out
    have er := HR.out
    rw [← eb, if_pos rfl] at er
    subst er
    exact ⟨_, _, rfl, HC0.out, Kd.F_mono (Kd.F_below H0.out HB2.out) (fun _ h => .inl h), HB2.out⟩
   ·rw [if_neg hc0] at HK2
    have q1 : (c == 0) = false := by simpa using hc0
    have q2 : (c != 0) = true := by simpa using hc0
    have hwi : wrap64 ((i : Int) + 1) = ((i + 1 : Nat) : Int) := by have := HL.out; unfold wrap64; omega
    go_wp2_with (first | (go_at_call 68; (refine (trustquorumref04_Compare.calls k x.f0 B1 d1 x.f1 B2 d2 x.f2 t.f0 A1 c1 t.f1 A2 c2 t.f2 c _ (Kd.C_alloc (Kd.F_now F1.out) _) G1.out (Kd.C_alloc (Kd.F_now F2.out) _) G2.out (Kd.C_alloc (Kd.C_below (Kd.F_now H1.out) HW.out) _) HC1.out (Kd.C_alloc (Kd.C_below (Kd.F_now H2.out) HW.out) _) HC2.out HCC.out).mono ?_); rintro e w2 ⟨rfl, hb⟩; have HB2 := Aside0.mk ((below_alloc HBr.out _).trans (hb.mono (Nat.le_trans HBr.out.size (by simp)))); clear hb))
    go_roundg (l0.length - (i + 1))
    case rel => exact ⟨i + 1, rfl, by first | rw [hwi] | rfl, by omega, HK2, HB2⟩
    case measure => omega
  ·obtain rfl : i = l0.length := by omega
   have hk := HK.out
   rw [List.drop_length] at hk
   have eb : b = false := (Option.some.inj hk).symm
   subst eb
   have er := HR.out
   rw [if_neg (by decide)] at er
   subst er
   have y0 := (blk_cell HBX.out 0).trans rfl
   have y1 := (blk_cell HBX.out 1).trans rfl
   have y2 := (blk_cell HBX.out 2).trans rfl
   have mixed : Try.prog.follows Departure.mixedOrders = true := by kernel_rfl
   have hcap := HC0.out
   go_wp2_with fail
   go_region_law_o (refine F_append_step k27 rfl (.tmp 24) (.tmp 26) 25 27 (.agg #[(.int .i64 0), (.slice none 0 0), (.slice none 0 0)]) 56 rfl Try.underlying25 info27 rfl (by decide) (by omega) A0 l0 t [.int .i64 t.f0, .slice A1 t.f1.length c1, .slice A2 t.f2.length c2] ok ok (by simp [Act.eval, Act.put]) (by simp [Act.eval, Act.put]) (Kd.FK_below (Kd.FK_below (k27_mkF w ok t HC1.out H1.out HC2.out H2.out) HW.out) (below_drew (Below.refl _ _))) (Kd.F_drew (Kd.F_below H0.out HW.out)) (by have := HL.out; omega) ?_; intro v1 w1 hN hB; obtain ⟨Av, cv, rfl, hlc, _⟩ := Kd.N_reads hN)
   all_goals (
    go_wp2_with fail
    go_ret
    refine ⟨Av, cv, by first | rfl | (simp [Act.put, Act.eval]; done), hlc, Kd.F_mono (Kd.N_F hN) (fun k hk => ?_), (below_drew HW.out).trans (hB.mono HW.out.size)⟩
    rcases hk with hk | hk | hk
    ·exact .inl hk
    ·exact .inl hk
    ·exact .inr (Nat.le_trans HW.out.size hk))
end
def trustquorumref04_with.f (k : Nat) (l0 : List S27) (a1_0 : Int) (l1_1 : List Int) (l1_2 : List S27) : Option (List S27) := if l0.length < 1073741824 then rwith k l0 ⟨a1_0, l1_1, l1_2⟩ else none
theorem trustquorumref04_with.calls (k : Nat) (P0_ : Nat → Prop) (A0 : Option Addr) (c0 : Nat) (l0 : List S27) (a1_0 : Int) (P1_1_ : Nat → Prop) (A1_1 : Option Addr) (c1_1 : Nat) (l1_1 : List Int) (P1_2_ : Nat → Prop) (A1_2 : Option Addr) (c1_2 : Nat) (l1_2 : List S27) (r : List S27) (w : World) (hs0 : Kd.V k27 27 w w.heap.size (fun k_ => P0_ k_) (.slice A0 l0.length c0) l0) (hs1_1 : Kd.V (Kd.int .i64) 3 w w.heap.size (fun k_ => P1_1_ k_) (.slice A1_1 l1_1.length c1_1) l1_1) (hs1_2 : Kd.V k27 27 w w.heap.size (fun k_ => P1_2_ k_) (.slice A1_2 l1_2.length c1_2) l1_2) (h : trustquorumref04_with.f k l0 a1_0 l1_1 l1_2 = some r) :
 Calls Try.prog 67 #[.slice A0 l0.length c0, .agg #[.int .i64 a1_0, .slice A1_1 l1_1.length c1_1, .slice A1_2 l1_2.length c1_2]] w fun e w' => ∃ v0_ : Value, e = .returned v0_ ∧ Kd.V k27 27 w' w.heap.size (fun k_ => ((P0_ k_ ∨ P1_1_ k_ ∨ P1_2_ k_) ∨ w.heap.size ≤ k_)) v0_ r ∧ Below w.heap.size w w' := by
 unfold trustquorumref04_with.f at h
 by_cases hl : l0.length < 1073741824
 ·rw [if_pos hl] at h
  obtain ⟨B0, d0, e0, g0, f0⟩ := hs0
  obtain ⟨B1, d1, e1, g1, f1⟩ := hs1_1
  obtain ⟨B2, d2, e2, g2, f2⟩ := hs1_2
  injection e0 with q1 _ q2; subst q1; subst q2
  injection e1 with q1 _ q2; subst q1; subst q2
  injection e2 with q1 _ q2; subst q1; subst q2
  refine (with_walk k (fun g => P0_ g ∨ P1_1_ g ∨ P1_2_ g) A0 c0 l0 ⟨a1_0, l1_1, l1_2⟩ A1_1 c1_1 A1_2 c1_2 r w (Kd.F_mono f0 (fun _ h => .inl h)) g0 (Kd.F_mono f1 (fun _ h => .inr (.inl h))) g1 (Kd.F_mono f2 (fun _ h => .inr (.inr h))) g2 hl h).mono ?_
  rintro e w' ⟨A, c, rfl, hc, hf, hb⟩
  exact ⟨_, rfl, ⟨A, c, rfl, hc, hf⟩, hb⟩
 ·rw [if_neg hl] at h
  cases h
end Go.Proofs.Ytfkpimjiaijmgaa.G
end
section
namespace Go.Proofs.Ytfkpimjiaijmgaa.G
open Go.RowKit Go.Proofs.YtfkpimjiaijmgaaW.PrintWords Go.Proofs.YtfkpimjiaijmgaaW.PrintLast Go.Proofs.YtfkpimjiaijmgaaW.PrintMore
attribute [local go_sem] max2_int min2_int max_two min_two max_three min_three max_four min_four   -- for this text's walks alone
set_option linter.unusedVariables false
set_option linter.unusedSimpArgs false
mutual
def trustquorumref04_merged.l0 : Nat → Bool → List (S27) → Int → Int → Int → List Int → List (S27) → Option (Int × List Int × (List (S27)))
 | 0, _, _, _, _, _, _, _ => none
 | k + 1, x1, x20, x21, x22, x356000, x356001, x356002 => if x22 < x21 then (if 0 ≤ x22 then (if x22 < (x20.length : Int) then (if x1 = true then ((trustquorumref04_count.f ((rd_T27 x20 x22).f0) ((rd_T27 x20 x22).f1) ((rd_T27 x20 x22).f2)).bind fun t359 => (trustquorumref04_merged.j1 k x1 x20 x21 x22 (((rd_T27 x20 x22).f0) != t359) x356000 x356001 x356002 ((rd_T27 x20 x22).f0) ((rd_T27 x20 x22).f1) ((rd_T27 x20 x22).f2))) else (if ((rd_T27 x20 x22).f0) = 1 then (trustquorumref04_merged.j1 k x1 x20 x21 x22 false x356000 x356001 x356002 ((rd_T27 x20 x22).f0) ((rd_T27 x20 x22).f1) ((rd_T27 x20 x22).f2)) else (trustquorumref04_merged.j1 k x1 x20 x21 x22 true x356000 x356001 x356002 ((rd_T27 x20 x22).f0) ((rd_T27 x20 x22).f1) ((rd_T27 x20 x22).f2)))) else (none)) else (none)) else (if x1 = true then ((trustquorumref04_count.f x356000 x356001 x356002).bind fun t356 => (some (t356, x356001, x356002))) else (some (x356000, x356001, x356002)))
def trustquorumref04_merged.j1 : Nat → Bool → List (S27) → Int → Int → Bool → Int → List Int → List (S27) → Int → List Int → List (S27) → Option (Int × List Int × (List (S27)))
 | 0, _, _, _, _, _, _, _, _, _, _, _ => none
 | k + 1, x1, x20, x21, x22, x42, x356000, x356001, x356002, x359000, x359001, x359002 => if x42 = true then ((trustquorumref04_with.f k x356002 x359000 x359001 x359002).bind fun t360 => (trustquorumref04_merged.l0 k x1 x20 x21 (wrap64 (x22 + 1)) x356000 x356001 t360)) else (trustquorumref04_merged.l1 k x1 x20 x21 x22 x359001 (x359001.length : Int) 0 x356000 x356001 x356002 x359000 x359001 x359002)
def trustquorumref04_merged.l1 : Nat → Bool → List (S27) → Int → Int → List Int → Int → Int → Int → List Int → List (S27) → Int → List Int → List (S27) → Option (Int × List Int × (List (S27)))
 | 0, _, _, _, _, _, _, _, _, _, _, _, _, _ => none
 | k + 1, x1, x20, x21, x22, x49, x50, x51, x356000, x356001, x356002, x359000, x359001, x359002 => if x51 < x50 then (if 0 ≤ x51 then (if x51 < (x49.length : Int) then ((trustquorumref04_has.f k x356001 (rd x49 x51)).bind fun t364 => (if t364 = true then (trustquorumref04_merged.l1 k x1 x20 x21 x22 x49 x50 (wrap64 (x51 + 1)) x356000 x356001 x356002 x359000 x359001 x359002) else (if x356001.length < 17592186044416 then (trustquorumref04_merged.l1 k x1 x20 x21 x22 x49 x50 (wrap64 (x51 + 1)) x356000 (x356001 ++ [rd x49 x51]) x356002 x359000 x359001 x359002) else (none)))) else (none)) else (none)) else (trustquorumref04_merged.l2 k x1 x20 x21 x22 x359002 (x359002.length : Int) 0 x356000 x356001 x356002)
def trustquorumref04_merged.l2 : Nat → Bool → List (S27) → Int → Int → List (S27) → Int → Int → Int → List Int → List (S27) → Option (Int × List Int × (List (S27)))
 | 0, _, _, _, _, _, _, _, _, _, _ => none
 | k + 1, x1, x20, x21, x22, x68, x69, x70, x356000, x356001, x356002 => if x70 < x69 then (if 0 ≤ x70 then (if x70 < (x68.length : Int) then ((trustquorumref04_with.f k x356002 ((rd_T27 x68 x70).f0) ((rd_T27 x68 x70).f1) ((rd_T27 x68 x70).f2)).bind fun t370 => (trustquorumref04_merged.l2 k x1 x20 x21 x22 x68 x69 (wrap64 (x70 + 1)) x356000 x356001 t370)) else (none)) else (none)) else (trustquorumref04_merged.l0 k x1 x20 x21 (wrap64 (x22 + 1)) x356000 x356001 x356002)
end
def trustquorumref04_merged.f (k : Nat) (a0_0 : Int) (l0_1 : List Int) (l0_2 : List (S27)) (a1 : Bool) : Option (Int × List Int × (List (S27))) := (some (([] : List Int) : List Int)).bind fun y349 => (if y349.length + l0_1.length < 17592186044416 then (trustquorumref04_merged.l0 k a1 l0_2 (l0_2.length : Int) 0 a0_0 (y349 ++ l0_1) ([] : List (S27))) else (none))
def trustquorumref04_merged.T1 : Bool × List (List Nat × List Nat) := (true, [([], []), ([0], [0]), ([], []), ([], []), ([3], [3]), ([2, 4], [2, 4]), ([1, 5], [1, 5]), ([], []), ([7, 6, 5, 0, 1, 2, 3, 4, 5, 6, 7], [6, 7])])
def trustquorumref04_merged.B1 : List Nat := [0, 1, 0, 0, 8, 28, 63, 0, 255]
theorem trustquorumref04_merged.tab1 : rtab .any (opsOf Try.f50 1) = trustquorumref04_merged.T1 := by kernel_rfl
theorem trustquorumref04_merged.bits1 : waitsOk trustquorumref04_merged.T1.2 trustquorumref04_merged.B1 = true := by kernel_rfl
def trustquorumref04_merged.T5 : Bool × List (List Nat × List Nat) := (true, [([], []), ([0], [0]), ([1], [1]), ([2], [2]), ([3, 2], [2, 3]), ([4, 2], [2, 4]), ([2, 5], [2, 5]), ([6, 2], [6]), ([7], [7]), ([8, 7, 7], [7, 8]), ([9], [9]), ([10, 9], [9, 10]), ([9], [9]), ([12, 9, 9], [9, 12]), ([11, 13, 9], [9, 11, 13]), ([9, 14, 7], [7, 9, 14]), ([7, 15], [7, 15])])
def trustquorumref04_merged.B5 : List Nat := [0, 1, 3, 7, 15, 31, 63, 127, 255, 511, 1023, 2047, 1023, 5119, 16383, 32767, 65535]
theorem trustquorumref04_merged.tab5 : rtab .any (opsOf Try.f50 5) = trustquorumref04_merged.T5 := by kernel_rfl
theorem trustquorumref04_merged.bits5 : waitsOk trustquorumref04_merged.T5.2 trustquorumref04_merged.B5 = true := by kernel_rfl
set_option maxHeartbeats 8000000 in
set_option maxRecDepth 100000 in
theorem trustquorumref04_merged.calls (k : Nat) (a0_0 : Int) (A0_1 : Option Addr) (c0_1 : Nat) (l0_1 : List Int) (P0_2_ : Nat → Prop) (A0_2 : Option Addr) (c0_2 : Nat) (l0_2 : List (S27)) (a1 : Bool) (r1 : Int) (r2 : List Int) (r3 : List (S27)) (w : World) (hr0_1 : Kd.C (Kd.int .i64) w A0_1 l0_1.length l0_1) (hc0_1 : l0_1.length ≤ c0_1) (hs0_2 : Kd.V k27 27 w w.heap.size (fun k_ => P0_2_ k_) (.slice A0_2 l0_2.length c0_2) l0_2) (h : trustquorumref04_merged.f k a0_0 l0_1 l0_2 a1 = some (r1, r2, r3)) :
 Calls Try.prog 50 #[.agg #[.int .i64 a0_0, .slice A0_1 l0_1.length c0_1, .slice A0_2 l0_2.length c0_2], .bool a1] w fun e w' => ∃ v1_ v2_ : Value, e = .returned (.agg #[.int .i64 r1, v1_, v2_]) ∧ Kd.R (Kd.int .i64) 3 w' w.heap.size (fun k_ => (w.heap.size ≤ k_)) v1_ r2 ∧ Kd.V k27 27 w' w.heap.size (fun k_ => (P0_2_ k_ ∨ w.heap.size ≤ k_) ∧ some k_ ≠ (v1_ : Value).ownBlock) v2_ r3 ∧ Below w.heap.size w w' := by
 have hu27 := Try.underlying27
 have HR0_1 := Aside0.mk hr0_1
 have HC0_1 := Aside0.mk hc0_1
 clear hr0_1 hc0_1
 have HO0_2 := Aside0.mk (show Kd.V k27 27 w w.heap.size (fun k_ => (P0_2_ k_ ∨ w.heap.size ≤ k_)) (.slice A0_2 l0_2.length c0_2) l0_2 from Kd.V_mono hs0_2 (fun k_ hk => .inl hk))
 have HB := Aside0.mk (Below.refl w.heap.size w)
 have H : ((some (([] : List Int) : List Int)).bind fun y349 => (if y349.length + l0_1.length < 17592186044416 then (trustquorumref04_merged.l0 k a1 l0_2 (l0_2.length : Int) 0 a0_0 (y349 ++ l0_1) ([] : List (S27))) else (none))) = some (r1, r2, r3) := h
 clear h
 obtain ⟨y349, hy349⟩ : ∃ y_ : List Int, y_ = (([] : List Int)) := ⟨_, rfl⟩
 replace H : (if y349.length + l0_1.length < 17592186044416 then (trustquorumref04_merged.l0 k a1 l0_2 (l0_2.length : Int) 0 a0_0 (y349 ++ l0_1) ([] : List (S27))) else (none)) = some (r1, r2, r3) := by first | (rw [hy349]; with_reducible exact H) | (have H2_ := (Option.bind_some _ _).symm.trans H; rw [hy349]; with_reducible exact H2_) | (have H2_ := (Option.bind_some _ _).symm.trans H; with_reducible exact H2_) | with_reducible exact H | (rw [hy349]; exact H) | exact H
 have Ny349 := Aside0.mk hy349
 clear hy349
 by_cases c3 : y349.length + l0_1.length < 17592186044416
 ·rw [if_pos c3] at H
  have LMc3 := Aside0.mk c3
  clear c3
  obtain ⟨y352, hy352⟩ : ∃ y_ : List Int, y_ = (y349 ++ l0_1) := ⟨_, rfl⟩
  replace H : (trustquorumref04_merged.l0 k a1 l0_2 (l0_2.length : Int) 0 a0_0 y352 ([] : List (S27))) = some (r1, r2, r3) := by first | (rw [hy352]; with_reducible exact H) | (have H2_ := (Option.bind_some _ _).symm.trans H; rw [hy352]; with_reducible exact H2_) | (have H2_ := (Option.bind_some _ _).symm.trans H; with_reducible exact H2_) | with_reducible exact H | (rw [hy352]; exact H) | exact H
  have Ny352 := Aside0.mk hy352
  clear hy352
  have H' := Aside0.mk H
  clear H
  go_enter Try.func50, Try.ntmps50
  try go_wp2_with (first | ((with_reducible refine gate_dst (N := 2) rfl ?_); refine box_event ?hg (N := 2) ?hd (cs := #[.int .i64 a0_0, .slice A0_1 l0_1.length c0_1, .slice A0_2 l0_2.length c0_2]) (t := 27) ?hr ?_; (case hd => rfl); (case hg => rfl); (case hr => first | (go_simp; done) | (go_simp; rfl)); intro gb347 hg w4 hbox hb; replace HO0_2 := Aside0.mk (Kd.V_below (Kd.V_elderB (Kd.uV HO0_2) gb347 (Nat.le_of_eq hg.symm)) hb); have BK347 := Aside0.mk (hbox); have GW347 := Aside0.mk ((by rw [hg]; exact (below_size (bB HB)) : w.heap.size ≤ gb347)); have GE347 := Aside0.mk ((by rw [hg]; exact (below_size (bB HB)) : w.heap.size ≤ gb347)); replace HB := bs HB hb; clear hb hbox hg) | ((with_reducible refine gate_dst (N := 4) rfl ?_); refine box_event ?hg (N := 4) ?hd (cs := #[.int .i64 0, .slice none 0 0, .slice none 0 0]) (t := 27) ?hr ?_; (case hd => rfl); (case hg => rfl); (case hr => first | (go_simp; done) | (go_simp; rfl)); intro gb348 hg w5 hbox hb; replace HO0_2 := Aside0.mk (Kd.V_below (Kd.V_elderB (Kd.uV HO0_2) gb348 (Nat.le_of_eq hg.symm)) hb); have BK348 := Aside0.mk (hbox); have GW348 := Aside0.mk ((by rw [hg]; exact (below_size (bB HB)) : w.heap.size ≤ gb348)); have GE348 := Aside0.mk ((by rw [hg]; exact (below_size (bB HB)) : w.heap.size ≤ gb348)); replace HB := bs HB hb; have NB347_348 := Aside0.mk ((by rw [hg]; exact Nat.ne_of_lt (blk_lt (bU BK347)) : gb347 ≠ gb348)); have NB348_347 := Aside0.mk ((by rw [hg]; exact Nat.ne_of_gt (blk_lt (bU BK347)) : gb348 ≠ gb347)); replace BK347 := bb BK347 hb; clear hb hbox hg))
  replace HO0_2 := Aside0.mk (Kd.V_drew HO0_2.out)
  replace BK347 := Aside0.mk (blk_drew BK347.out)
  replace BK348 := Aside0.mk (blk_drew BK348.out)
  replace HB := Aside0.mk (below_drew1 HB.out)
  refine start_ (n := 9) (S := fun w' => w'.cell? ⟨gb347, 0, none⟩ = some (.int .i64 a0_0) ∧ w'.cell? ⟨gb347, 1, none⟩ = some (.slice A0_1 l0_1.length c0_1) ∧ w'.cell? ⟨gb347, 2, none⟩ = some (.slice A0_2 l0_2.length c0_2)) (ds := []) #[false, false, false, false, false, false, false, false, false] (by kernel_rfl) rfl rfl ⟨bC0 BK347, bC1 BK347, bC2 BK347⟩ (fun hHeld => ?_); refine with_tabW trustquorumref04_merged.tab1 trustquorumref04_merged.bits1 (fun HT_ HW_ => ?_)
  generalize w5.drew = w6 at HO0_2 BK347 BK348 HB hHeld ⊢
  refine pureA_ 0 12 HT_ ?_
  refine pureA_ 3 15 HT_ ?_
  refine takeA_ 1 13 HT_ HW_ hHeld ?_
  refine takeA_ 4 16 HT_ HW_ hHeld ?_
  refine join_ (σ := Value × Value × Nat) 1 #[true, true, true, true, true, true, true, true, false] (fun s_ => [(14, s_.1), (17, s_.2.1), (5, .pointer (some ⟨s_.2.2, 0, none⟩)), (18, .agg #[.int .i64 a0_0, s_.2.1, .slice none 0 0])]) (fun s_ w' => (w'.cell? ⟨gb347, 0, none⟩ = some (.int .i64 a0_0) ∧ w'.cell? ⟨gb347, 1, none⟩ = some (.slice A0_1 l0_1.length c0_1) ∧ w'.cell? ⟨gb347, 2, none⟩ = some (.slice A0_2 l0_2.length c0_2)) ∧ (Kd.V k27 27 w' w.heap.size (fun k_ => (P0_2_ k_ ∨ w.heap.size ≤ k_) ∧ some k_ ≠ (s_.2.1 : Value).ownBlock ∧ k_ ≠ gb347 ∧ k_ ≠ gb348 ∧ k_ ≠ s_.2.2) (.slice A0_2 l0_2.length c0_2) l0_2) ∧ (Kd.R (Kd.int .i64) 3 w' w.heap.size (fun k_ => (w.heap.size ≤ k_)) s_.2.1 y352) ∧ (w'.heap[gb347]? = some (.cells #[.int .i64 a0_0, .slice A0_1 l0_1.length c0_1, .slice A0_2 l0_2.length c0_2] 27 (0, 0))) ∧ (w'.heap[gb348]? = some (.cells #[.int .i64 0, .slice none 0 0, .slice none 0 0] 27 (0, 0))) ∧ (w'.heap[s_.2.2]? = some (.cells #[.int .i64 0, .slice none 0 0, .slice none 0 0] 27 (0, 0))) ∧ (w.heap.size ≤ s_.2.2) ∧ (w.heap.size ≤ s_.2.2) ∧ (gb347 ≠ s_.2.2) ∧ (s_.2.2 ≠ gb347) ∧ (gb348 ≠ s_.2.2) ∧ (s_.2.2 ≠ gb348) ∧ (Below w.heap.size w w')) ?_ ?_
  rotate_left
  ·intro hCont
   refine two_ (i := 2) (j := 7) (Ni := some 14) (Nj := some 5) #[true, true, true, true, true, false, false, false, false] #[true, true, false, true, true, false, false, true, false] rfl rfl rfl rfl (two_of HT_.out (by kernel_rfl)) (by decide) (by decide) (fun K hK => ?_) (fun K hK => ?_)
   ·skip
    refine Kd.R_lit_step (Kd.int .i64) _ 3 ?hg (N := 14) ?hd (xs := ([] : List Int)) (inner := []) (ok := fun _ => True) (okp := fun _ => True) ?hr ?hp (fun _ hk => hk) trivial (Below.refl _ _) (Nat.le_refl _) (by simp) ?_; (case hd => rfl); (case hg => rfl); (case hr => first | (go_simp; done) | (go_simp; rfl)); (case hp => exact (Reps.none _ _))
    intro v350 w7 ho8 hb hg_ hnew_
    clear hg_ hnew_
    (first | rw [← Ny349.out] at ho8 | (simp only [Int.reduceToNat] at ho8; rw [← Ny349.out] at ho8))
    replace HO0_2 := Aside0.mk (Kd.V_elder' (Kd.uV HO0_2) (Kd.R_base ho8) hb)
    have HO351 := Aside0.mk (Kd.R_lower (Kd.R_newM (M := fun k_ => (w.heap.size ≤ k_)) ho8 (below_size (bB HB)) (fun k_ h_ => h_)) (below_size (bB HB)))
    replace BK347 := bb BK347 hb
    replace BK348 := bb BK348 hb
    replace HB := bs HB hb
    clear hb ho8
    refine hK.out _ _ ⟨bC0 BK347, bC1 BK347, bC2 BK347⟩ (fun hHeld => ?_)
    clear hK K
    refine normA_ ?_
    refine two_ (i := 5) (j := 7) (Ni := some 17) (Nj := some 5) #[true, true, true, true, true, true, false, false, false] #[true, true, true, true, true, false, false, true, false] rfl rfl rfl rfl (two_of HT_.out (by kernel_rfl)) (by decide) (by decide) (fun K hK => ?_) (fun K hK => ?_)
    ·skip
     refine Kd.R_append_rows_step (Kd.int .i64) (w0 := w) w.heap.size (by rfl) (.tmp 14) (.tmp 16) 22 3 (.int .i64 0) 8 rfl Try.underlying22 info3 rfl (by decide) (by omega) v350 y349 l0_1 _ _ _ (fun k_ => (w.heap.size ≤ k_)) (fun _ => False) rfl rfl ?aO ?aR (fun _ _ h => h) (fun _ h => h.elim) ?aF ?aB ?aS ?aL ?_
     (case aR => exact Kd.uC (Kd.C_below HR0_1.out HB.out))
     (case aB => exact (bB HB))
     (case aF => exact (fun k_ hk => (Nat.le_trans (below_size (bB HB)) hk)))
     (case aO => exact (by (with_reducible repeat (first | apply Kd.R_alloc | apply Kd.R_drewN | apply Kd.R_drew)); exact Kd.R_mono HO351.out (fun _ hk => hk.1)))
     (case aS => exact (below_size (bB HB)))
     (case aL => have := LMc3.out; omega)
     intro v353 w9 ho hb hg hat
     rw [← Ny352.out] at ho
     replace HO0_2 := Aside0.mk (Kd.V_afterv (ok := (fun k_ => (P0_2_ k_ ∨ w.heap.size ≤ k_) ∧ k_ ≠ gb347 ∧ k_ ≠ gb348)) (by (with_reducible repeat (first | apply Kd.V_alloc | apply Kd.V_drewN | apply Kd.V_drew)); exact Kd.V_mono HO0_2.out (fun _ hk => ⟨⟨hk.1.1.1, ⟨hk.1.1.2, hk.1.2⟩⟩, hk.2⟩)) hg hat)
     replace BK347 := Aside0.mk (blk_grown (bU BK347) hg (Kd.R_ne HO351.out BK347.out (by decide)))
     replace BK348 := Aside0.mk (blk_grown (bU BK348) hg (Kd.R_ne HO351.out BK348.out (by decide)))
     replace HB := Aside0.mk (hb)
     have HO354 := Aside0.mk (ho)
     clear HO351
     clear ho hb hg hat
     obtain ⟨Ao10, co10, eo10⟩ := Kd.R_slice HO354.out
     (first | subst eo10 | (injection eo10 with f1_ f2_ f3_; have f4_ := f1_.symm; have f5_ := f3_.symm; clear f1_ f2_ f3_; subst f4_; subst f5_))
     refine hK.out _ _ ⟨bC0 BK347, bC1 BK347, bC2 BK347⟩ (fun hHeld => ?_)
     clear hK K
     refine normA_ ?_
     refine pureA_ 6 18 HT_ ?_
     refine one_ (i := 7) (N := some 5) #[true, true, true, true, true, true, true, true, false] rfl rfl (one_of HT_.out (by kernel_rfl)) (by decide) (fun K hK => ?_)
     refine box_step ?hg (N := 5) ?hd (cs := #[.int .i64 0, .slice none 0 0, .slice none 0 0]) (t := 27) ?hr ?_; (case hd => rfl); (case hg => rfl); (case hr => first | (go_simp; done) | (go_simp; rfl))
     intro gb355 hg w11 hbox hb
     replace HO0_2 := Aside0.mk (Kd.V_below (Kd.V_elderB (Kd.uV HO0_2) gb355 (Nat.le_of_eq hg.symm)) hb)
     replace HO354 := Kd.bR HO354 hb
     have BK355 := Aside0.mk (hbox)
     have GW355 := Aside0.mk ((by rw [hg]; exact (below_size (bB HB)) : w.heap.size ≤ gb355))
     have GE355 := Aside0.mk ((by rw [hg]; exact (below_size (bB HB)) : w.heap.size ≤ gb355))
     replace HB := bs HB hb
     have NB347_355 := Aside0.mk ((by rw [hg]; exact Nat.ne_of_lt (blk_lt (bU BK347)) : gb347 ≠ gb355))
     have NB355_347 := Aside0.mk ((by rw [hg]; exact Nat.ne_of_gt (blk_lt (bU BK347)) : gb355 ≠ gb347))
     replace BK347 := bb BK347 hb
     have NB348_355 := Aside0.mk ((by rw [hg]; exact Nat.ne_of_lt (blk_lt (bU BK348)) : gb348 ≠ gb355))
     have NB355_348 := Aside0.mk ((by rw [hg]; exact Nat.ne_of_gt (blk_lt (bU BK348)) : gb355 ≠ gb348))
     replace BK348 := bb BK348 hb
     clear hb hbox hg
     refine hK.out _ _ ⟨bC0 BK347, bC1 BK347, bC2 BK347⟩ (fun hHeld => ?_)
     clear hK K
     refine normA_ ?_
     exact norm_ (by simp only [putAll, Act.put, List.setIfInBounds_toArray, List.set_cons_zero, List.set_cons_succ]) (hCont (v350, .slice Ao10 y352.length co10, gb355) _ ⟨hHeld, (by (with_reducible repeat (first | apply Kd.V_alloc | apply Kd.V_drewN | apply Kd.V_drew)); exact Kd.V_mono HO0_2.out (fun _ hk => ⟨hk.1.1.1, ⟨hk.1.2, ⟨hk.1.1.2.1, ⟨hk.1.1.2.2, hk.2⟩⟩⟩⟩)), (Kd.uR HO354), (bU BK347), (bU BK348), (bU BK355), GW355.out, GE355.out, NB347_355.out, NB355_347.out, NB348_355.out, NB355_348.out, (bB HB)⟩)
    ·skip
     refine box_step ?hg (N := 5) ?hd (cs := #[.int .i64 0, .slice none 0 0, .slice none 0 0]) (t := 27) ?hr ?_; (case hd => rfl); (case hg => rfl); (case hr => first | (go_simp; done) | (go_simp; rfl))
     intro gb355 hg w9 hbox hb
     replace HO0_2 := Aside0.mk (Kd.V_below (Kd.V_elderB (Kd.uV HO0_2) gb355 (Nat.le_of_eq hg.symm)) hb)
     replace HO351 := Kd.bR HO351 hb
     have BK355 := Aside0.mk (hbox)
     have GW355 := Aside0.mk ((by rw [hg]; exact (below_size (bB HB)) : w.heap.size ≤ gb355))
     have GE355 := Aside0.mk ((by rw [hg]; exact (below_size (bB HB)) : w.heap.size ≤ gb355))
     replace HB := bs HB hb
     have NB347_355 := Aside0.mk ((by rw [hg]; exact Nat.ne_of_lt (blk_lt (bU BK347)) : gb347 ≠ gb355))
     have NB355_347 := Aside0.mk ((by rw [hg]; exact Nat.ne_of_gt (blk_lt (bU BK347)) : gb355 ≠ gb347))
     replace BK347 := bb BK347 hb
     have NB348_355 := Aside0.mk ((by rw [hg]; exact Nat.ne_of_lt (blk_lt (bU BK348)) : gb348 ≠ gb355))
     have NB355_348 := Aside0.mk ((by rw [hg]; exact Nat.ne_of_gt (blk_lt (bU BK348)) : gb355 ≠ gb348))
     replace BK348 := bb BK348 hb
     clear hb hbox hg
     refine hK.out _ _ ⟨bC0 BK347, bC1 BK347, bC2 BK347⟩ (fun hHeld => ?_)
     clear hK K
     refine normA_ ?_
     refine one_ (i := 5) (N := some 17) #[true, true, true, true, true, true, false, true, false] rfl rfl (one_of HT_.out (by kernel_rfl)) (by decide) (fun K hK => ?_)
     refine Kd.R_append_rows_step (Kd.int .i64) (w0 := w) w.heap.size (by rfl) (.tmp 14) (.tmp 16) 22 3 (.int .i64 0) 8 rfl Try.underlying22 info3 rfl (by decide) (by omega) v350 y349 l0_1 _ _ _ (fun k_ => (w.heap.size ≤ k_)) (fun _ => False) rfl rfl ?aO ?aR (fun _ _ h => h) (fun _ h => h.elim) ?aF ?aB ?aS ?aL ?_
     (case aR => exact Kd.uC (Kd.C_below HR0_1.out HB.out))
     (case aB => exact (bB HB))
     (case aF => exact (fun k_ hk => (Nat.le_trans (below_size (bB HB)) hk)))
     (case aO => exact (by (with_reducible repeat (first | apply Kd.R_alloc | apply Kd.R_drewN | apply Kd.R_drew)); exact Kd.R_mono HO351.out (fun _ hk => hk.1)))
     (case aS => exact (below_size (bB HB)))
     (case aL => have := LMc3.out; omega)
     intro v353 w10 ho hb hg hat
     rw [← Ny352.out] at ho
     replace HO0_2 := Aside0.mk (Kd.V_afterv (ok := (fun k_ => (P0_2_ k_ ∨ w.heap.size ≤ k_) ∧ k_ ≠ gb347 ∧ k_ ≠ gb348 ∧ k_ ≠ gb355)) (by (with_reducible repeat (first | apply Kd.V_alloc | apply Kd.V_drewN | apply Kd.V_drew)); exact Kd.V_mono HO0_2.out (fun _ hk => ⟨⟨hk.1.1.1.1, ⟨hk.1.1.1.2, ⟨hk.1.1.2, hk.2⟩⟩⟩, hk.1.2⟩)) hg hat)
     replace BK347 := Aside0.mk (blk_grown (bU BK347) hg (Kd.R_ne HO351.out BK347.out (by decide)))
     replace BK348 := Aside0.mk (blk_grown (bU BK348) hg (Kd.R_ne HO351.out BK348.out (by decide)))
     replace BK355 := Aside0.mk (blk_grown (bU BK355) hg (Kd.R_ne HO351.out BK355.out (by decide)))
     replace HB := Aside0.mk (hb)
     have HO354 := Aside0.mk (ho)
     clear HO351
     clear ho hb hg hat
     obtain ⟨Ao11, co11, eo11⟩ := Kd.R_slice HO354.out
     (first | subst eo11 | (injection eo11 with f1_ f2_ f3_; have f4_ := f1_.symm; have f5_ := f3_.symm; clear f1_ f2_ f3_; subst f4_; subst f5_))
     refine hK.out _ _ ⟨bC0 BK347, bC1 BK347, bC2 BK347⟩ (fun hHeld => ?_)
     clear hK K
     refine normA_ ?_
     refine pureA_ 6 18 HT_ ?_
     exact norm_ (by simp only [putAll, Act.put, List.setIfInBounds_toArray, List.set_cons_zero, List.set_cons_succ]) (hCont (v350, .slice Ao11 y352.length co11, gb355) _ ⟨hHeld, (by (with_reducible repeat (first | apply Kd.V_alloc | apply Kd.V_drewN | apply Kd.V_drew)); exact Kd.V_mono HO0_2.out (fun _ hk => ⟨hk.1.1, ⟨hk.2, ⟨hk.1.2.1, ⟨hk.1.2.2.1, hk.1.2.2.2⟩⟩⟩⟩)), (Kd.uR HO354), (bU BK347), (bU BK348), (bU BK355), GW355.out, GE355.out, NB347_355.out, NB355_347.out, NB348_355.out, NB355_348.out, (bB HB)⟩)
   ·skip
    refine box_step ?hg (N := 5) ?hd (cs := #[.int .i64 0, .slice none 0 0, .slice none 0 0]) (t := 27) ?hr ?_; (case hd => rfl); (case hg => rfl); (case hr => first | (go_simp; done) | (go_simp; rfl))
    intro gb355 hg w7 hbox hb
    replace HO0_2 := Aside0.mk (Kd.V_below (Kd.V_elderB (Kd.uV HO0_2) gb355 (Nat.le_of_eq hg.symm)) hb)
    have BK355 := Aside0.mk (hbox)
    have GW355 := Aside0.mk ((by rw [hg]; exact (below_size (bB HB)) : w.heap.size ≤ gb355))
    have GE355 := Aside0.mk ((by rw [hg]; exact (below_size (bB HB)) : w.heap.size ≤ gb355))
    replace HB := bs HB hb
    have NB347_355 := Aside0.mk ((by rw [hg]; exact Nat.ne_of_lt (blk_lt (bU BK347)) : gb347 ≠ gb355))
    have NB355_347 := Aside0.mk ((by rw [hg]; exact Nat.ne_of_gt (blk_lt (bU BK347)) : gb355 ≠ gb347))
    replace BK347 := bb BK347 hb
    have NB348_355 := Aside0.mk ((by rw [hg]; exact Nat.ne_of_lt (blk_lt (bU BK348)) : gb348 ≠ gb355))
    have NB355_348 := Aside0.mk ((by rw [hg]; exact Nat.ne_of_gt (blk_lt (bU BK348)) : gb355 ≠ gb348))
    replace BK348 := bb BK348 hb
    clear hb hbox hg
    refine hK.out _ _ ⟨bC0 BK347, bC1 BK347, bC2 BK347⟩ (fun hHeld => ?_)
    clear hK K
    refine normA_ ?_
    refine one_ (i := 2) (N := some 14) #[true, true, true, true, true, false, false, true, false] rfl rfl (one_of HT_.out (by kernel_rfl)) (by decide) (fun K hK => ?_)
    refine Kd.R_lit_step (Kd.int .i64) _ 3 ?hg (N := 14) ?hd (xs := ([] : List Int)) (inner := []) (ok := fun _ => True) (okp := fun _ => True) ?hr ?hp (fun _ hk => hk) trivial (Below.refl _ _) (Nat.le_refl _) (by simp) ?_; (case hd => rfl); (case hg => rfl); (case hr => first | (go_simp; done) | (go_simp; rfl)); (case hp => exact (Reps.none _ _))
    intro v350 w8 ho9 hb hg_ hnew_
    clear hg_ hnew_
    (first | rw [← Ny349.out] at ho9 | (simp only [Int.reduceToNat] at ho9; rw [← Ny349.out] at ho9))
    replace HO0_2 := Aside0.mk (Kd.V_elder' (Kd.uV HO0_2) (Kd.R_base ho9) hb)
    have HO351 := Aside0.mk (Kd.R_lower (Kd.R_newM (M := fun k_ => (w.heap.size ≤ k_)) ho9 (below_size (bB HB)) (fun k_ h_ => h_)) (below_size (bB HB)))
    replace BK347 := bb BK347 hb
    replace BK348 := bb BK348 hb
    replace BK355 := bb BK355 hb
    replace HB := bs HB hb
    clear hb ho9
    refine hK.out _ _ ⟨bC0 BK347, bC1 BK347, bC2 BK347⟩ (fun hHeld => ?_)
    clear hK K
    refine normA_ ?_
    refine one_ (i := 5) (N := some 17) #[true, true, true, true, true, true, false, true, false] rfl rfl (one_of HT_.out (by kernel_rfl)) (by decide) (fun K hK => ?_)
    refine Kd.R_append_rows_step (Kd.int .i64) (w0 := w) w.heap.size (by rfl) (.tmp 14) (.tmp 16) 22 3 (.int .i64 0) 8 rfl Try.underlying22 info3 rfl (by decide) (by omega) v350 y349 l0_1 _ _ _ (fun k_ => (w.heap.size ≤ k_)) (fun _ => False) rfl rfl ?aO ?aR (fun _ _ h => h) (fun _ h => h.elim) ?aF ?aB ?aS ?aL ?_
    (case aR => exact Kd.uC (Kd.C_below HR0_1.out HB.out))
    (case aB => exact (bB HB))
    (case aF => exact (fun k_ hk => (Nat.le_trans (below_size (bB HB)) hk)))
    (case aO => exact (by (with_reducible repeat (first | apply Kd.R_alloc | apply Kd.R_drewN | apply Kd.R_drew)); exact Kd.R_mono HO351.out (fun _ hk => hk.1)))
    (case aS => exact (below_size (bB HB)))
    (case aL => have := LMc3.out; omega)
    intro v353 w10 ho hb hg hat
    rw [← Ny352.out] at ho
    replace HO0_2 := Aside0.mk (Kd.V_afterv (ok := (fun k_ => (P0_2_ k_ ∨ w.heap.size ≤ k_) ∧ k_ ≠ gb347 ∧ k_ ≠ gb348 ∧ k_ ≠ gb355)) (by (with_reducible repeat (first | apply Kd.V_alloc | apply Kd.V_drewN | apply Kd.V_drew)); exact Kd.V_mono HO0_2.out (fun _ hk => ⟨⟨hk.1.1.1.1, ⟨hk.1.1.1.2, ⟨hk.1.1.2, hk.1.2⟩⟩⟩, hk.2⟩)) hg hat)
    replace BK347 := Aside0.mk (blk_grown (bU BK347) hg (Kd.R_ne HO351.out BK347.out (by decide)))
    replace BK348 := Aside0.mk (blk_grown (bU BK348) hg (Kd.R_ne HO351.out BK348.out (by decide)))
    replace BK355 := Aside0.mk (blk_grown (bU BK355) hg (Kd.R_ne HO351.out BK355.out (by decide)))
    replace HB := Aside0.mk (hb)
    have HO354 := Aside0.mk (ho)
    clear HO351
    clear ho hb hg hat
    obtain ⟨Ao11, co11, eo11⟩ := Kd.R_slice HO354.out
    (first | subst eo11 | (injection eo11 with f1_ f2_ f3_; have f4_ := f1_.symm; have f5_ := f3_.symm; clear f1_ f2_ f3_; subst f4_; subst f5_))
    refine hK.out _ _ ⟨bC0 BK347, bC1 BK347, bC2 BK347⟩ (fun hHeld => ?_)
    clear hK K
    refine normA_ ?_
    refine pureA_ 6 18 HT_ ?_
    exact norm_ (by simp only [putAll, Act.put, List.setIfInBounds_toArray, List.set_cons_zero, List.set_cons_succ]) (hCont (v350, .slice Ao11 y352.length co11, gb355) _ ⟨hHeld, (by (with_reducible repeat (first | apply Kd.V_alloc | apply Kd.V_drewN | apply Kd.V_drew)); exact Kd.V_mono HO0_2.out (fun _ hk => ⟨hk.1.1, ⟨hk.2, ⟨hk.1.2.1, ⟨hk.1.2.2.1, hk.1.2.2.2⟩⟩⟩⟩)), (Kd.uR HO354), (bU BK347), (bU BK348), (bU BK355), GW355.out, GE355.out, NB347_355.out, NB355_347.out, NB348_355.out, NB355_348.out, (bB HB)⟩)
  rintro ⟨v350, v353, gb355⟩ w12 ⟨hS_, h0_, h1_, h2_, h3_, h4_, h5_, h6_, h7_, h8_, h9_, h10_, h11_⟩
  replace HO0_2 := Aside0.mk h0_
  have HO354 := Aside0.mk h1_
  replace BK347 := Aside0.mk h2_
  replace BK348 := Aside0.mk h3_
  have BK355 := Aside0.mk h4_
  have GW355 := Aside0.mk h5_
  have GE355 := Aside0.mk h6_
  have NB347_355 := Aside0.mk h7_
  have NB355_347 := Aside0.mk h8_
  have NB348_355 := Aside0.mk h9_
  have NB355_348 := Aside0.mk h10_
  replace HB := Aside0.mk h11_
  clear h0_ h1_ h2_ h3_ h4_ h5_ h6_ h7_ h8_ h9_ h10_ h11_
  have hHeld : w12.cell? ⟨gb347, 0, none⟩ = some (.int .i64 a0_0) ∧ w12.cell? ⟨gb347, 1, none⟩ = some (.slice A0_1 l0_1.length c0_1) ∧ w12.cell? ⟨gb347, 2, none⟩ = some (.slice A0_2 l0_2.length c0_2) := hS_
  obtain ⟨Ao13, co13, eo13⟩ := Kd.R_slice HO354.out
  (first | subst eo13 | (injection eo13 with f1_ f2_ f3_; have f4_ := f1_.symm; have f5_ := f3_.symm; clear f1_ f2_ f3_; subst f4_; subst f5_))
  refine norm_ (a' := ?_) ?_ ?_
  rotate_left
  ·simp only [putAll, Act.put, List.setIfInBounds_toArray, List.set_cons_zero, List.set_cons_succ]
   rfl
  refine one_ (i := 8) (N := none) #[true, true, true, true, true, true, true, true, true] rfl rfl (one_of HT_.out (by kernel_rfl)) (by decide) (fun K hK => ?_)
  have hs14 := bC0 BK355
  have hfs14 := blk_frozen BK355.out 0
  have hns14_0 := NB347_355.out
  have hns14_1 := NB348_355.out
  have hms14_0 := NB355_347.out
  have hms14_1 := NB355_348.out
  have hs15 := bC1 BK355
  have hfs15 := blk_frozen BK355.out 1
  have hns15_0 := NB347_355.out
  have hns15_1 := NB348_355.out
  have hms15_0 := NB355_347.out
  have hms15_1 := NB355_348.out
  have hs16 := bC2 BK355
  have hfs16 := blk_frozen BK355.out 2
  have hns16_0 := NB347_355.out
  have hns16_1 := NB348_355.out
  have hms16_0 := NB355_347.out
  have hms16_1 := NB355_348.out
  refine skip_ (w1 := ?_) (by rfl) rfl ?_ ?_
  rotate_left
  ·go_simp
   rfl
  refine hK.out _ _ ⟨((cell_far (p := ⟨gb355, _, none⟩) NB347_355.out _).trans (((cell_far (p := ⟨gb355, _, none⟩) NB347_355.out _).trans (((cell_far (p := ⟨gb355, _, none⟩) NB347_355.out _).trans (hHeld.1)))))), ((cell_far (p := ⟨gb355, _, none⟩) NB347_355.out _).trans (((cell_far (p := ⟨gb355, _, none⟩) NB347_355.out _).trans (((cell_far (p := ⟨gb355, _, none⟩) NB347_355.out _).trans (hHeld.2.1)))))), ((cell_far (p := ⟨gb355, _, none⟩) NB347_355.out _).trans (((cell_far (p := ⟨gb355, _, none⟩) NB347_355.out _).trans (((cell_far (p := ⟨gb355, _, none⟩) NB347_355.out _).trans (hHeld.2.2))))))⟩ (fun hHeld => ?_)
  clear hK K
  refine done_ (done_of HT_.out (by kernel_rfl)) ?_
  have hnb17 := NB347_348.out
  have hnc17 := NB348_347.out
  have hnb18 := NB347_355.out
  have hnc18 := NB355_347.out
  have hcz19_0 := bC0 BK347
  have hcz19_1 := bC1 BK347
  have hcz19_2 := bC2 BK347
  have hfz19_0 := blk_frozen BK347.out 0
  have hfz19_1 := blk_frozen BK347.out 1
  have hfz19_2 := blk_frozen BK347.out 2
  try go_wp2
  go_loopg [22] k (fun kq v22 w' => ∃ (x22_1 : Int) (x356001_1 : List Int) (x356002_1 : List (S27)) (u356001 : Value) (u356002 : Value), v22 = .int .i64 x22_1 ∧ Aside0 (trustquorumref04_merged.l0 kq a1 l0_2 (l0_2.length : Int) x22_1 a0_0 x356001_1 x356002_1 = some (r1, r2, r3)) ∧ Aside0 (kq ≤ k) ∧ Aside0 (Kd.V k27 27 w' w.heap.size (fun k_ => (P0_2_ k_ ∨ w.heap.size ≤ k_) ∧ some k_ ≠ (u356001 : Value).ownBlock ∧ k_ ≠ gb347 ∧ k_ ≠ gb348 ∧ k_ ≠ gb355) (.slice A0_2 l0_2.length c0_2) l0_2) ∧ Aside0 (Kd.V k27 27 w' w.heap.size (fun k_ => (P0_2_ k_ ∨ w.heap.size ≤ k_) ∧ some k_ ≠ (u356001 : Value).ownBlock ∧ k_ ≠ gb347 ∧ k_ ≠ gb348 ∧ k_ ≠ gb355) (.slice A0_2 l0_2.length c0_2) l0_2) ∧ Aside0 (Kd.R (Kd.int .i64) 3 w' w.heap.size (fun k_ => (w.heap.size ≤ k_)) u356001 x356001_1) ∧ Aside0 (Kd.V k27 27 w' w.heap.size (fun k_ => (P0_2_ k_ ∨ w.heap.size ≤ k_) ∧ some k_ ≠ (u356001 : Value).ownBlock ∧ k_ ≠ gb347 ∧ k_ ≠ gb348 ∧ k_ ≠ gb355) u356002 x356002_1) ∧ Aside0 (w'.heap[gb347]? = some (.cells #[.int .i64 a0_0, (.slice A0_1 l0_1.length c0_1), (.slice A0_2 l0_2.length c0_2)] 27 (0, 0))) ∧ Aside0 (w'.heap[gb348]? = some (.cells #[.int .i64 0, (.slice none 0 0), (.slice none 0 0)] 27 (0, 0))) ∧ Aside0 (w'.heap[gb355]? = some (.cells #[.int .i64 a0_0, u356001, u356002] 27 (0, 0))) ∧ Aside0 (Below w.heap.size w w'))
  case atStart => exact ⟨(0), (y352), (([] : List (S27))), (.slice Ao13 y352.length co13), (.slice none 0 0), (by first | rfl | (simp; done) | (simp [*]; done)), H', ⟨Nat.le_refl _⟩, ⟨by (with_reducible repeat (first | apply Kd.V_alloc | apply Kd.V_drewN | apply Kd.V_drew)); exact Kd.V_fw3 HO0_2.out (fun _ hk => hk.2.2.2.2)⟩, ⟨by (with_reducible repeat (first | apply Kd.V_alloc | apply Kd.V_drewN | apply Kd.V_drew)); exact Kd.V_fw3 HO0_2.out (fun _ hk => hk.2.2.2.2)⟩, ⟨by (with_reducible repeat (first | apply Kd.R_alloc | apply Kd.R_drewN | apply Kd.R_drew)); exact Kd.R_ft3 (Kd.R_types HO354.out BK355.out (by decide))⟩, ⟨Kd.V_nil _ _ _ _ _⟩, ⟨bF BK347⟩, ⟨bF BK348⟩, ⟨bP3 BK355⟩, ⟨bB HB⟩⟩
  case round =>
   clear H'
   try clear c1
   try clear p2
   try clear c3
   try clear c5
   try clear c17
   try clear c18
   try clear hcz19_0
   try clear hcz19_1
   try clear hcz19_2
   try clear hfz19_0
   try clear hfz19_1
   try clear hfz19_2
   obtain ⟨x22_1, x356001_1, x356002_1, u356001, u356002, rfl, HA, HK1, HO_20, HO_348002, HO_356001, HO_356002, BK347, BK348, BK355, HB⟩ := hrel
   cases gk with
   | zero => exact absurd HA.out (by simp [trustquorumref04_merged.l0])
   | succ k1 =>
    have H := HA.out
    clear HA
    simp only [trustquorumref04_merged.l0] at H
    by_cases c20 : x22_1 < (l0_2.length : Int)
    ·rw [if_pos c20] at H
     have c20b0 : decide (x22_1 < (l0_2.length : Int)) = true := decide_eq_true c20
     clear c20
     by_cases c21 : 0 ≤ x22_1
     ·rw [if_pos c21] at H
      have c21b0 : decide (0 ≤ x22_1) = true := decide_eq_true c21
      clear c21
      by_cases c22 : x22_1 < (l0_2.length : Int)
      ·rw [if_pos c22] at H
       have c22b0 : decide (x22_1 < (l0_2.length : Int)) = true := decide_eq_true c22
       clear c22
       have HC23 := Aside0.mk H
       clear H
       have p357 : 0 ≤ (x22_1 : Int) := of_decide_eq_true (by first | (with_reducible assumption) | assumption)
       have q357 : x22_1 < (l0_2.length : Int) := of_decide_eq_true (by first | (with_reducible assumption) | assumption)
       obtain ⟨ad357, A357_1, c357_1, A357_2, c357_2, e357, hx357_0, hx357_1, hx357_2, hl357_1, hi357_1, hl357_2, hi357_2⟩ := at_T27 (Kd.V_reads' HO_20.out).2.2 x22_1 p357 q357
       cases e357
       obtain ⟨ce357, hce357, hMe357, hcc357⟩ := Kd.V_get HO_20.out z27 x22_1 p357 (by first | exact q357 | exact of_decide_eq_true (by first | (with_reducible assumption) | assumption) | (have e_ := (Kd.V_reads' HO_20.out).1; omega))
       obtain ⟨ua357_1, uc357_1, ua357_2, uc357_2, rfl, ul357_1, ge357_1, ul357_2, ge357_2⟩ := k27_openF hMe357
       have hv357_1 := hcc357 1 _ rfl
       rw [add_field _ _ 1 (by omega)] at hv357_1
       replace hv357_1 := Option.some.inj (hv357_1.symm.trans hx357_1)
       injection hv357_1 with hva_ hvn_ hvc_
       rw [hva_] at ge357_1
       rw [hvc_] at ul357_1
       have HL357_1 := Aside0.mk (show Kd.V (Kd.int .i64) 3 _ w.heap.size _ _ ((rd_T27 l0_2 x22_1).f1) from Kd.V_mk ul357_1 ge357_1)
       clear hva_ hvn_ hvc_ ge357_1 ul357_1
       have hv357_2 := hcc357 2 _ rfl
       rw [add_field _ _ 2 (by omega)] at hv357_2
       replace hv357_2 := Option.some.inj (hv357_2.symm.trans hx357_2)
       injection hv357_2 with hva_ hvn_ hvc_
       rw [hva_] at ge357_2
       rw [hvc_] at ul357_2
       have HL357_2 := Aside0.mk (show Kd.V k27 27 _ w.heap.size _ _ ((rd_T27 l0_2 x22_1).f2) from Kd.V_mk ul357_2 ge357_2)
       clear hva_ hvn_ hvc_ ge357_2 ul357_2
       clear hcc357 hce357
       have HR357_1 := Aside0.mk hi357_1
       have HC357_1 := Aside0.mk hl357_1
       clear hi357_1 hl357_1
       have HR357_2 := Aside0.mk hi357_2
       have HC357_2 := Aside0.mk hl357_2
       clear hi357_2 hl357_2
       replace p357 := eq_true p357
       replace q357 := eq_true q357
       go_upto_region 5 with (first | ((with_reducible refine gate_dst (N := 7) rfl ?_); refine box_event ?hg (N := 7) ?hd (cs := #[.int .i64 0, .slice none 0 0, .slice none 0 0]) (t := 27) ?hr ?_; (case hd => rfl); (case hg => rfl); (case hr => first | (go_simp; done) | (go_simp; rfl)); intro gb358 hg w24 hbox hb; replace HO_20 := Aside0.mk (Kd.V_below (Kd.V_elderB (Kd.uV HO_20) gb358 (Nat.le_of_eq hg.symm)) hb); replace HO_348002 := Aside0.mk (Kd.V_below (Kd.V_elderB (Kd.uV HO_348002) gb358 (Nat.le_of_eq hg.symm)) hb); replace HO_356001 := Kd.bR HO_356001 hb; replace HO_356002 := Aside0.mk (Kd.V_below (Kd.V_elderB (Kd.uV HO_356002) gb358 (Nat.le_of_eq hg.symm)) hb); replace HL357_1 := Aside0.mk (Kd.V_below (Kd.V_elderB (Kd.uV HL357_1) gb358 (Nat.le_of_eq hg.symm)) hb); replace HL357_2 := Aside0.mk (Kd.V_below (Kd.V_elderB (Kd.uV HL357_2) gb358 (Nat.le_of_eq hg.symm)) hb); (try replace HR357_1 := Aside0.mk (Kd.C_below (by repeat (first | (with_reducible exact HR357_1.out) | (with_reducible refine Kd.C_alloc ?_ _) | (with_reducible refine Kd.C_drewN ?_ _) | (with_reducible refine Kd.C_drew ?_) | exact HR357_1.out)) hb)); (try replace HR357_2 := Aside0.mk (Kd.C_below (by repeat (first | (with_reducible exact HR357_2.out) | (with_reducible refine Kd.C_alloc ?_ _) | (with_reducible refine Kd.C_drewN ?_ _) | (with_reducible refine Kd.C_drew ?_) | exact HR357_2.out)) hb)); have BK358 := Aside0.mk (hbox); have GW358 := Aside0.mk ((by rw [hg]; exact (below_size (bB HB)) : w.heap.size ≤ gb358)); have GE358 := Aside0.mk ((by rw [hg]; exact (below_size (bB HB)) : w.heap.size ≤ gb358)); replace HB := bs HB hb; have NB347_358 := Aside0.mk ((by rw [hg]; exact Nat.ne_of_lt (blk_lt (bU BK347)) : gb347 ≠ gb358)); have NB358_347 := Aside0.mk ((by rw [hg]; exact Nat.ne_of_gt (blk_lt (bU BK347)) : gb358 ≠ gb347)); replace BK347 := bb BK347 hb; have NB348_358 := Aside0.mk ((by rw [hg]; exact Nat.ne_of_lt (blk_lt (bU BK348)) : gb348 ≠ gb358)); have NB358_348 := Aside0.mk ((by rw [hg]; exact Nat.ne_of_gt (blk_lt (bU BK348)) : gb358 ≠ gb348)); replace BK348 := bb BK348 hb; have NB355_358 := Aside0.mk ((by rw [hg]; exact Nat.ne_of_lt (blk_lt (bU BK355)) : gb355 ≠ gb358)); have NB358_355 := Aside0.mk ((by rw [hg]; exact Nat.ne_of_gt (blk_lt (bU BK355)) : gb358 ≠ gb355)); replace BK355 := bb BK355 hb; clear hb hbox hg; have hnb25 := NB358_347.out; have hnc25 := NB347_358.out; have hnb26 := NB358_348.out; have hnc26 := NB348_358.out; have hnb27 := NB358_355.out; have hnc27 := NB355_358.out; have hcz28_0 := bC0 BK358; have hcz28_1 := bC1 BK358; have hcz28_2 := bC2 BK358; have hfz28_0 := blk_frozen BK358.out 0; have hfz28_1 := blk_frozen BK358.out 1; have hfz28_2 := blk_frozen BK358.out 2))
       (try simp only [Act.put, List.setIfInBounds_toArray, List.set_cons_zero, List.set_cons_succ])
       go_cut [42] (fun v42 wc => ∃ (kq : Nat) (x42_22 : Bool), v42 = .bool x42_22 ∧ Aside0 (trustquorumref04_merged.j1 kq a1 l0_2 (l0_2.length : Int) x22_1 x42_22 a0_0 x356001_1 x356002_1 ((rd_T27 l0_2 x22_1).f0) ((rd_T27 l0_2 x22_1).f1) ((rd_T27 l0_2 x22_1).f2) = some (r1, r2, r3)) ∧ Aside0 (kq ≤ k1) ∧ Aside0 (Kd.V k27 27 wc w.heap.size (fun k_ => (P0_2_ k_ ∨ w.heap.size ≤ k_) ∧ some k_ ≠ (u356001 : Value).ownBlock ∧ k_ ≠ gb347 ∧ k_ ≠ gb348 ∧ k_ ≠ gb355 ∧ k_ ≠ gb358) (.slice (some ad357) l0_2.length c0_2) l0_2) ∧ Aside0 (Kd.V k27 27 wc w.heap.size (fun k_ => (P0_2_ k_ ∨ w.heap.size ≤ k_) ∧ some k_ ≠ (u356001 : Value).ownBlock ∧ k_ ≠ gb347 ∧ k_ ≠ gb348 ∧ k_ ≠ gb355 ∧ k_ ≠ gb358) (.slice (some ad357) l0_2.length c0_2) l0_2) ∧ Aside0 (Kd.R (Kd.int .i64) 3 wc w.heap.size (fun k_ => (w.heap.size ≤ k_)) u356001 x356001_1) ∧ Aside0 (Kd.V k27 27 wc w.heap.size (fun k_ => (P0_2_ k_ ∨ w.heap.size ≤ k_) ∧ some k_ ≠ (u356001 : Value).ownBlock ∧ k_ ≠ gb347 ∧ k_ ≠ gb348 ∧ k_ ≠ gb355 ∧ k_ ≠ gb358) u356002 x356002_1) ∧ Aside0 (Kd.V (Kd.int .i64) 3 wc w.heap.size (fun k_ => (P0_2_ k_ ∨ w.heap.size ≤ k_) ∧ some k_ ≠ (u356001 : Value).ownBlock ∧ k_ ≠ gb347 ∧ k_ ≠ gb348 ∧ k_ ≠ gb355 ∧ k_ ≠ gb358) (.slice A357_1 ((rd_T27 l0_2 x22_1).f1).length c357_1) ((rd_T27 l0_2 x22_1).f1)) ∧ Aside0 (Kd.V k27 27 wc w.heap.size (fun k_ => (P0_2_ k_ ∨ w.heap.size ≤ k_) ∧ some k_ ≠ (u356001 : Value).ownBlock ∧ k_ ≠ gb347 ∧ k_ ≠ gb348 ∧ k_ ≠ gb355 ∧ k_ ≠ gb358) (.slice A357_2 ((rd_T27 l0_2 x22_1).f2).length c357_2) ((rd_T27 l0_2 x22_1).f2)) ∧ Aside0 (wc.heap[gb347]? = some (.cells #[.int .i64 a0_0, (.slice A0_1 l0_1.length c0_1), (.slice (some ad357) l0_2.length c0_2)] 27 (0, 0))) ∧ Aside0 (wc.heap[gb348]? = some (.cells #[.int .i64 0, (.slice none 0 0), (.slice none 0 0)] 27 (0, 0))) ∧ Aside0 (wc.heap[gb355]? = some (.cells #[.int .i64 a0_0, u356001, u356002] 27 (0, 0))) ∧ Aside0 (wc.heap[gb358]? = some (.cells #[.int .i64 ((rd_T27 l0_2 x22_1).f0), (.slice A357_1 ((rd_T27 l0_2 x22_1).f1).length c357_1), (.slice A357_2 ((rd_T27 l0_2 x22_1).f2).length c357_2)] 27 (0, 0))) ∧ Aside0 (Below w.heap.size w wc))
       case first =>
        have H := HC23.out
        clear HC23
        by_cases c29 : a1 = true
        ·subst c29
         have H1 : ((trustquorumref04_count.f ((rd_T27 l0_2 x22_1).f0) ((rd_T27 l0_2 x22_1).f1) ((rd_T27 l0_2 x22_1).f2)).bind fun t359 => (trustquorumref04_merged.j1 k1 true l0_2 (l0_2.length : Int) x22_1 (((rd_T27 l0_2 x22_1).f0) != t359) a0_0 x356001_1 x356002_1 ((rd_T27 l0_2 x22_1).f0) ((rd_T27 l0_2 x22_1).f1) ((rd_T27 l0_2 x22_1).f2))) = some (r1, r2, r3) := by rw [if_pos rfl] at H; exact H
         clear H
         have H := H1
         clear H1
         replace H := Option.bind_eq_some_iff.mp H
         obtain ⟨t359, A300, H⟩ := H
         replace H : (trustquorumref04_merged.j1 k1 true l0_2 (l0_2.length : Int) x22_1 (((rd_T27 l0_2 x22_1).f0) != t359) a0_0 x356001_1 x356002_1 ((rd_T27 l0_2 x22_1).f0) ((rd_T27 l0_2 x22_1).f1) ((rd_T27 l0_2 x22_1).f2)) = some (r1, r2, r3) := H
         have A30 := Aside0.mk A300
         clear A300
         have H' := Aside0.mk H
         clear H
         try go_wp2
         have n0_ : Aside0 (Kd.V k27 27 (((w24.setCell ⟨gb358, 0, none⟩ (.int .i64 ((rd_T27 l0_2 x22_1).f0))).setCell ⟨gb358, 1, none⟩ (.slice A357_1 ((rd_T27 l0_2 x22_1).f1).length c357_1)).setCell ⟨gb358, 2, none⟩ (.slice A357_2 ((rd_T27 l0_2 x22_1).f2).length c357_2)) w.heap.size (fun k_ => (P0_2_ k_ ∨ w.heap.size ≤ k_) ∧ some k_ ≠ (u356001 : Value).ownBlock ∧ k_ ≠ gb347 ∧ k_ ≠ gb348 ∧ k_ ≠ gb355 ∧ k_ ≠ gb358) (.slice (some ad357) l0_2.length c0_2) l0_2) := ⟨by (with_reducible repeat (first | apply Kd.V_alloc | apply Kd.V_drewN | apply Kd.V_drew)); exact Kd.V_mono (Kd.V_fw3 HO_20.out (fun _ hk => hk.2)) (fun _ hk => ⟨hk.1.1, ⟨hk.1.2.1, ⟨hk.1.2.2.1, ⟨hk.1.2.2.2.1, ⟨hk.1.2.2.2.2, hk.2⟩⟩⟩⟩⟩)⟩
         have n1_ : Aside0 (Kd.V k27 27 (((w24.setCell ⟨gb358, 0, none⟩ (.int .i64 ((rd_T27 l0_2 x22_1).f0))).setCell ⟨gb358, 1, none⟩ (.slice A357_1 ((rd_T27 l0_2 x22_1).f1).length c357_1)).setCell ⟨gb358, 2, none⟩ (.slice A357_2 ((rd_T27 l0_2 x22_1).f2).length c357_2)) w.heap.size (fun k_ => (P0_2_ k_ ∨ w.heap.size ≤ k_) ∧ some k_ ≠ (u356001 : Value).ownBlock ∧ k_ ≠ gb347 ∧ k_ ≠ gb348 ∧ k_ ≠ gb355 ∧ k_ ≠ gb358) (.slice (some ad357) l0_2.length c0_2) l0_2) := ⟨by (with_reducible repeat (first | apply Kd.V_alloc | apply Kd.V_drewN | apply Kd.V_drew)); exact Kd.V_mono (Kd.V_fw3 HO_348002.out (fun _ hk => hk.2)) (fun _ hk => ⟨hk.1.1, ⟨hk.1.2.1, ⟨hk.1.2.2.1, ⟨hk.1.2.2.2.1, ⟨hk.1.2.2.2.2, hk.2⟩⟩⟩⟩⟩)⟩
         have n2_ : Aside0 (Kd.R (Kd.int .i64) 3 (((w24.setCell ⟨gb358, 0, none⟩ (.int .i64 ((rd_T27 l0_2 x22_1).f0))).setCell ⟨gb358, 1, none⟩ (.slice A357_1 ((rd_T27 l0_2 x22_1).f1).length c357_1)).setCell ⟨gb358, 2, none⟩ (.slice A357_2 ((rd_T27 l0_2 x22_1).f2).length c357_2)) w.heap.size (fun k_ => (w.heap.size ≤ k_)) u356001 x356001_1) := ⟨by (with_reducible repeat (first | apply Kd.R_alloc | apply Kd.R_drewN | apply Kd.R_drew)); exact Kd.R_ft3 (Kd.R_types HO_356001.out BK358.out (by decide))⟩
         have n3_ : Aside0 (Kd.V k27 27 (((w24.setCell ⟨gb358, 0, none⟩ (.int .i64 ((rd_T27 l0_2 x22_1).f0))).setCell ⟨gb358, 1, none⟩ (.slice A357_1 ((rd_T27 l0_2 x22_1).f1).length c357_1)).setCell ⟨gb358, 2, none⟩ (.slice A357_2 ((rd_T27 l0_2 x22_1).f2).length c357_2)) w.heap.size (fun k_ => (P0_2_ k_ ∨ w.heap.size ≤ k_) ∧ some k_ ≠ (u356001 : Value).ownBlock ∧ k_ ≠ gb347 ∧ k_ ≠ gb348 ∧ k_ ≠ gb355 ∧ k_ ≠ gb358) u356002 x356002_1) := ⟨by (with_reducible repeat (first | apply Kd.V_alloc | apply Kd.V_drewN | apply Kd.V_drew)); exact Kd.V_mono (Kd.V_fw3 HO_356002.out (fun _ hk => hk.2)) (fun _ hk => ⟨hk.1.1, ⟨hk.1.2.1, ⟨hk.1.2.2.1, ⟨hk.1.2.2.2.1, ⟨hk.1.2.2.2.2, hk.2⟩⟩⟩⟩⟩)⟩
         have n4_ : Aside0 (Kd.V (Kd.int .i64) 3 (((w24.setCell ⟨gb358, 0, none⟩ (.int .i64 ((rd_T27 l0_2 x22_1).f0))).setCell ⟨gb358, 1, none⟩ (.slice A357_1 ((rd_T27 l0_2 x22_1).f1).length c357_1)).setCell ⟨gb358, 2, none⟩ (.slice A357_2 ((rd_T27 l0_2 x22_1).f2).length c357_2)) w.heap.size (fun k_ => (P0_2_ k_ ∨ w.heap.size ≤ k_) ∧ some k_ ≠ (u356001 : Value).ownBlock ∧ k_ ≠ gb347 ∧ k_ ≠ gb348 ∧ k_ ≠ gb355 ∧ k_ ≠ gb358) (.slice A357_1 ((rd_T27 l0_2 x22_1).f1).length c357_1) ((rd_T27 l0_2 x22_1).f1)) := ⟨by (with_reducible repeat (first | apply Kd.V_alloc | apply Kd.V_drewN | apply Kd.V_drew)); exact Kd.V_mono (Kd.V_fw3 HL357_1.out (fun _ hk => hk.2)) (fun _ hk => ⟨hk.1.1, ⟨hk.1.2.1, ⟨hk.1.2.2.1, ⟨hk.1.2.2.2.1, ⟨hk.1.2.2.2.2, hk.2⟩⟩⟩⟩⟩)⟩
         have n5_ : Aside0 (Kd.V k27 27 (((w24.setCell ⟨gb358, 0, none⟩ (.int .i64 ((rd_T27 l0_2 x22_1).f0))).setCell ⟨gb358, 1, none⟩ (.slice A357_1 ((rd_T27 l0_2 x22_1).f1).length c357_1)).setCell ⟨gb358, 2, none⟩ (.slice A357_2 ((rd_T27 l0_2 x22_1).f2).length c357_2)) w.heap.size (fun k_ => (P0_2_ k_ ∨ w.heap.size ≤ k_) ∧ some k_ ≠ (u356001 : Value).ownBlock ∧ k_ ≠ gb347 ∧ k_ ≠ gb348 ∧ k_ ≠ gb355 ∧ k_ ≠ gb358) (.slice A357_2 ((rd_T27 l0_2 x22_1).f2).length c357_2) ((rd_T27 l0_2 x22_1).f2)) := ⟨by (with_reducible repeat (first | apply Kd.V_alloc | apply Kd.V_drewN | apply Kd.V_drew)); exact Kd.V_mono (Kd.V_fw3 HL357_2.out (fun _ hk => hk.2)) (fun _ hk => ⟨hk.1.1, ⟨hk.1.2.1, ⟨hk.1.2.2.1, ⟨hk.1.2.2.2.1, ⟨hk.1.2.2.2.2, hk.2⟩⟩⟩⟩⟩)⟩
         have n6_ : Aside0 ((((w24.setCell ⟨gb358, 0, none⟩ (.int .i64 ((rd_T27 l0_2 x22_1).f0))).setCell ⟨gb358, 1, none⟩ (.slice A357_1 ((rd_T27 l0_2 x22_1).f1).length c357_1)).setCell ⟨gb358, 2, none⟩ (.slice A357_2 ((rd_T27 l0_2 x22_1).f2).length c357_2)).heap[gb347]? = some (.cells #[.int .i64 a0_0, .slice A0_1 l0_1.length c0_1, .slice (some ad357) l0_2.length c0_2] 27 (0, 0))) := ⟨bF BK347⟩
         have n7_ : Aside0 ((((w24.setCell ⟨gb358, 0, none⟩ (.int .i64 ((rd_T27 l0_2 x22_1).f0))).setCell ⟨gb358, 1, none⟩ (.slice A357_1 ((rd_T27 l0_2 x22_1).f1).length c357_1)).setCell ⟨gb358, 2, none⟩ (.slice A357_2 ((rd_T27 l0_2 x22_1).f2).length c357_2)).heap[gb348]? = some (.cells #[.int .i64 0, .slice none 0 0, .slice none 0 0] 27 (0, 0))) := ⟨bF BK348⟩
         have n8_ : Aside0 ((((w24.setCell ⟨gb358, 0, none⟩ (.int .i64 ((rd_T27 l0_2 x22_1).f0))).setCell ⟨gb358, 1, none⟩ (.slice A357_1 ((rd_T27 l0_2 x22_1).f1).length c357_1)).setCell ⟨gb358, 2, none⟩ (.slice A357_2 ((rd_T27 l0_2 x22_1).f2).length c357_2)).heap[gb355]? = some (.cells #[.int .i64 a0_0, u356001, u356002] 27 (0, 0))) := ⟨bF BK355⟩
         have n9_ : Aside0 ((((w24.setCell ⟨gb358, 0, none⟩ (.int .i64 ((rd_T27 l0_2 x22_1).f0))).setCell ⟨gb358, 1, none⟩ (.slice A357_1 ((rd_T27 l0_2 x22_1).f1).length c357_1)).setCell ⟨gb358, 2, none⟩ (.slice A357_2 ((rd_T27 l0_2 x22_1).f2).length c357_2)).heap[gb358]? = some (.cells #[.int .i64 ((rd_T27 l0_2 x22_1).f0), .slice A357_1 ((rd_T27 l0_2 x22_1).f1).length c357_1, .slice A357_2 ((rd_T27 l0_2 x22_1).f2).length c357_2] 27 (0, 0))) := ⟨bP3 BK358⟩
         have n10_ : Aside0 (Below w.heap.size w (((w24.setCell ⟨gb358, 0, none⟩ (.int .i64 ((rd_T27 l0_2 x22_1).f0))).setCell ⟨gb358, 1, none⟩ (.slice A357_1 ((rd_T27 l0_2 x22_1).f1).length c357_1)).setCell ⟨gb358, 2, none⟩ (.slice A357_2 ((rd_T27 l0_2 x22_1).f2).length c357_2))) := ⟨bB HB⟩
         (try clear HO_20)
         (try clear HO_348002)
         (try clear HO_356001)
         (try clear HO_356002)
         (try clear HL357_1)
         (try clear HL357_2)
         (try clear BK347)
         (try clear BK348)
         (try clear BK355)
         (try clear BK358)
         (try clear HB)
         generalize (((w24.setCell ⟨gb358, 0, none⟩ (.int .i64 ((rd_T27 l0_2 x22_1).f0))).setCell ⟨gb358, 1, none⟩ (.slice A357_1 ((rd_T27 l0_2 x22_1).f1).length c357_1)).setCell ⟨gb358, 2, none⟩ (.slice A357_2 ((rd_T27 l0_2 x22_1).f2).length c357_2)) = w31 at n0_ n1_ n2_ n3_ n4_ n5_ n6_ n7_ n8_ n9_ n10_ ⊢
         have HO_20 := n0_
         have HO_348002 := n1_
         have HO_356001 := n2_
         have HO_356002 := n3_
         have HL357_1 := n4_
         have HL357_2 := n5_
         have BK347 := n6_
         have BK348 := n7_
         have BK355 := n8_
         have BK358 := n9_
         have HB := n10_
         clear n0_ n1_ n2_ n3_ n4_ n5_ n6_ n7_ n8_ n9_ n10_
         replace HO_20 := Aside0.mk (Kd.V_drew HO_20.out)
         replace HO_348002 := Aside0.mk (Kd.V_drew HO_348002.out)
         replace HO_356001 := Aside0.mk (Kd.R_drew HO_356001.out)
         replace HO_356002 := Aside0.mk (Kd.V_drew HO_356002.out)
         replace HL357_1 := Aside0.mk (Kd.V_drew HL357_1.out)
         replace HL357_2 := Aside0.mk (Kd.V_drew HL357_2.out)
         replace BK347 := Aside0.mk (blk_drew BK347.out)
         replace BK348 := Aside0.mk (blk_drew BK348.out)
         replace BK355 := Aside0.mk (blk_drew BK355.out)
         replace BK358 := Aside0.mk (blk_drew BK358.out)
         replace HB := Aside0.mk (below_drew1 HB.out)
         refine start_ (n := 17) (S := fun w' => w'.cell? ⟨gb358, 0, none⟩ = some (.int .i64 ((rd_T27 l0_2 x22_1).f0)) ∧ w'.cell? ⟨gb358, 1, none⟩ = some (.slice A357_1 ((rd_T27 l0_2 x22_1).f1).length c357_1) ∧ w'.cell? ⟨gb358, 2, none⟩ = some (.slice A357_2 ((rd_T27 l0_2 x22_1).f2).length c357_2)) (ds := []) #[false, false, false, false, false, false, false, false, false, false, false, false, false, false, false, false, false] (by kernel_rfl) rfl rfl ⟨bC0 BK358, bC1 BK358, bC2 BK358⟩ (fun hHeld => ?_); refine with_tabW trustquorumref04_merged.tab5 trustquorumref04_merged.bits5 (fun HT_ HW_ => ?_)
         generalize w31.drew = w32 at HO_20 HO_348002 HO_356001 HO_356002 HL357_1 HL357_2 BK347 BK348 BK355 BK358 HB hHeld ⊢
         refine pureA_ 0 26 HT_ ?_
         refine pureA_ 1 27 HT_ ?_
         refine pureA_ 2 28 HT_ ?_
         refine pureU_ 3 29 HT_ ?_
         refine pureU_ 4 30 HT_ ?_
         refine pureU_ 5 31 HT_ ?_
         refine pureA_ 6 32 HT_ ?_
         refine pureA_ 7 33 HT_ ?_
         refine pureA_ 8 34 HT_ ?_
         refine pureA_ 9 35 HT_ ?_
         refine pureA_ 10 36 HT_ ?_
         refine takeA_ 11 37 HT_ HW_ hHeld ?_
         refine takeA_ 12 38 HT_ HW_ hHeld ?_
         refine one_ (i := 13) (N := some 39) #[true, true, true, true, true, true, true, true, true, true, true, true, true, true, false, false, false] rfl rfl (one_of HT_.out (by kernel_rfl)) (by decide) (fun K hK => ?_)
         refine goes_ Try.func51 (by kernel_rfl) rfl #[.agg #[.int .i64 ((rd_T27 l0_2 x22_1).f0), .slice A357_1 ((rd_T27 l0_2 x22_1).f1).length c357_1, .slice A357_2 ((rd_T27 l0_2 x22_1).f2).length c357_2]] (by rfl) rfl rfl (by (try simp only [List.map_toArray, List.map_cons, List.map_nil]); first | done | rfl | (simp only [List.length_drop, List.length_take]; rfl)) ?_
         with_reducible refine (trustquorumref04_count.calls ((rd_T27 l0_2 x22_1).f0) _ _ ((rd_T27 l0_2 x22_1).f1) _ _ ((rd_T27 l0_2 x22_1).f2) t359 _ ?side1 ?side2 ?side3 ?side4 A30.out).mono ?_
         (case side1 => repeat (first | exact ((Kd.V_reads' (Kd.uV HL357_1)).2.2) | (with_reducible refine Kd.C_alloc ?_ _) | (with_reducible refine Kd.C_drewN ?_ _) | (with_reducible refine Kd.C_drew ?_)))
         (case side2 => exact HC357_1.out)
         (case side3 => repeat (first | exact ((Kd.V_reads' (Kd.uV HL357_2)).2.2) | (with_reducible refine Kd.C_alloc ?_ _) | (with_reducible refine Kd.C_drewN ?_ _) | (with_reducible refine Kd.C_drew ?_)))
         (case side4 => exact HC357_2.out)
         rintro e w33 ⟨rfl, hb⟩
         refine ⟨_, rfl, ?_⟩
         replace HO_20 := Kd.bV HO_20 hb
         replace HO_348002 := Kd.bV HO_348002 hb
         replace HO_356001 := Kd.bR HO_356001 hb
         replace HO_356002 := Kd.bV HO_356002 hb
         replace HL357_1 := Kd.bV HL357_1 hb
         replace HL357_2 := Kd.bV HL357_2 hb
         replace BK347 := bb BK347 hb
         replace BK348 := bb BK348 hb
         replace BK355 := bb BK355 hb
         replace BK358 := bb BK358 hb
         replace HB := bs HB hb
         (try clear hb)
         (try clear hb2)
         (try clear hk)
         (try clear hi)
         refine hK.out _ _ ⟨bC0 BK358, bC1 BK358, bC2 BK358⟩ (fun hHeld => ?_)
         clear hK K
         refine normA_ ?_
         refine pureA_ 14 40 HT_ ?_
         refine pureA_ 15 41 HT_ ?_
         refine pureA_ 16 42 HT_ ?_
         refine done_ (done_of HT_.out (by kernel_rfl)) ?_
         try go_wp2
         go_meet
         case rel => exact ⟨_, ((((rd_T27 l0_2 x22_1).f0) != t359)), (by first | rfl | (simp; done) | (simp [*]; done)), H', ⟨by have := HK1.out; first | omega | exact Nat.le_refl _⟩, ⟨Kd.uV HO_20⟩, ⟨Kd.uV HO_348002⟩, ⟨Kd.uR HO_356001⟩, ⟨Kd.uV HO_356002⟩, ⟨Kd.uV HL357_1⟩, ⟨Kd.uV HL357_2⟩, ⟨bU BK347⟩, ⟨bU BK348⟩, ⟨bU BK355⟩, ⟨bU BK358⟩, ⟨bB HB⟩⟩
        ·replace c29 := Bool.eq_false_iff.mpr c29
         subst c29
         have H1 : (if ((rd_T27 l0_2 x22_1).f0) = 1 then (trustquorumref04_merged.j1 k1 false l0_2 (l0_2.length : Int) x22_1 false a0_0 x356001_1 x356002_1 ((rd_T27 l0_2 x22_1).f0) ((rd_T27 l0_2 x22_1).f1) ((rd_T27 l0_2 x22_1).f2)) else (trustquorumref04_merged.j1 k1 false l0_2 (l0_2.length : Int) x22_1 true a0_0 x356001_1 x356002_1 ((rd_T27 l0_2 x22_1).f0) ((rd_T27 l0_2 x22_1).f1) ((rd_T27 l0_2 x22_1).f2))) = some (r1, r2, r3) := by rw [if_neg (show ¬ (false = true) by decide)] at H; exact H
         clear H
         have H := H1
         clear H1
         by_cases c34 : ((rd_T27 l0_2 x22_1).f0) = 1
         ·rw [if_pos c34] at H
          have c34b0 : (((rd_T27 l0_2 x22_1).f0) == 1) = true := beq_iff_eq.mpr c34
          have c34b1 : (((rd_T27 l0_2 x22_1).f0) != 1) = false := bne_eq_false_iff_eq.mpr c34
          clear c34
          (first | rw [c34b0] | (simp only [i64_w, i32_w]; rw [c34b0]) | skip)
          have H' := Aside0.mk H
          clear H
          try go_wp2
          have n0_ : Aside0 (Kd.V k27 27 (((w24.setCell ⟨gb358, 0, none⟩ (.int .i64 ((rd_T27 l0_2 x22_1).f0))).setCell ⟨gb358, 1, none⟩ (.slice A357_1 ((rd_T27 l0_2 x22_1).f1).length c357_1)).setCell ⟨gb358, 2, none⟩ (.slice A357_2 ((rd_T27 l0_2 x22_1).f2).length c357_2)) w.heap.size (fun k_ => (P0_2_ k_ ∨ w.heap.size ≤ k_) ∧ some k_ ≠ (u356001 : Value).ownBlock ∧ k_ ≠ gb347 ∧ k_ ≠ gb348 ∧ k_ ≠ gb355 ∧ k_ ≠ gb358) (.slice (some ad357) l0_2.length c0_2) l0_2) := ⟨by (with_reducible repeat (first | apply Kd.V_alloc | apply Kd.V_drewN | apply Kd.V_drew)); exact Kd.V_mono (Kd.V_fw3 HO_20.out (fun _ hk => hk.2)) (fun _ hk => ⟨hk.1.1, ⟨hk.1.2.1, ⟨hk.1.2.2.1, ⟨hk.1.2.2.2.1, ⟨hk.1.2.2.2.2, hk.2⟩⟩⟩⟩⟩)⟩
          have n1_ : Aside0 (Kd.V k27 27 (((w24.setCell ⟨gb358, 0, none⟩ (.int .i64 ((rd_T27 l0_2 x22_1).f0))).setCell ⟨gb358, 1, none⟩ (.slice A357_1 ((rd_T27 l0_2 x22_1).f1).length c357_1)).setCell ⟨gb358, 2, none⟩ (.slice A357_2 ((rd_T27 l0_2 x22_1).f2).length c357_2)) w.heap.size (fun k_ => (P0_2_ k_ ∨ w.heap.size ≤ k_) ∧ some k_ ≠ (u356001 : Value).ownBlock ∧ k_ ≠ gb347 ∧ k_ ≠ gb348 ∧ k_ ≠ gb355 ∧ k_ ≠ gb358) (.slice (some ad357) l0_2.length c0_2) l0_2) := ⟨by (with_reducible repeat (first | apply Kd.V_alloc | apply Kd.V_drewN | apply Kd.V_drew)); exact Kd.V_mono (Kd.V_fw3 HO_348002.out (fun _ hk => hk.2)) (fun _ hk => ⟨hk.1.1, ⟨hk.1.2.1, ⟨hk.1.2.2.1, ⟨hk.1.2.2.2.1, ⟨hk.1.2.2.2.2, hk.2⟩⟩⟩⟩⟩)⟩
          have n2_ : Aside0 (Kd.R (Kd.int .i64) 3 (((w24.setCell ⟨gb358, 0, none⟩ (.int .i64 ((rd_T27 l0_2 x22_1).f0))).setCell ⟨gb358, 1, none⟩ (.slice A357_1 ((rd_T27 l0_2 x22_1).f1).length c357_1)).setCell ⟨gb358, 2, none⟩ (.slice A357_2 ((rd_T27 l0_2 x22_1).f2).length c357_2)) w.heap.size (fun k_ => (w.heap.size ≤ k_)) u356001 x356001_1) := ⟨by (with_reducible repeat (first | apply Kd.R_alloc | apply Kd.R_drewN | apply Kd.R_drew)); exact Kd.R_ft3 (Kd.R_types HO_356001.out BK358.out (by decide))⟩
          have n3_ : Aside0 (Kd.V k27 27 (((w24.setCell ⟨gb358, 0, none⟩ (.int .i64 ((rd_T27 l0_2 x22_1).f0))).setCell ⟨gb358, 1, none⟩ (.slice A357_1 ((rd_T27 l0_2 x22_1).f1).length c357_1)).setCell ⟨gb358, 2, none⟩ (.slice A357_2 ((rd_T27 l0_2 x22_1).f2).length c357_2)) w.heap.size (fun k_ => (P0_2_ k_ ∨ w.heap.size ≤ k_) ∧ some k_ ≠ (u356001 : Value).ownBlock ∧ k_ ≠ gb347 ∧ k_ ≠ gb348 ∧ k_ ≠ gb355 ∧ k_ ≠ gb358) u356002 x356002_1) := ⟨by (with_reducible repeat (first | apply Kd.V_alloc | apply Kd.V_drewN | apply Kd.V_drew)); exact Kd.V_mono (Kd.V_fw3 HO_356002.out (fun _ hk => hk.2)) (fun _ hk => ⟨hk.1.1, ⟨hk.1.2.1, ⟨hk.1.2.2.1, ⟨hk.1.2.2.2.1, ⟨hk.1.2.2.2.2, hk.2⟩⟩⟩⟩⟩)⟩
          have n4_ : Aside0 (Kd.V (Kd.int .i64) 3 (((w24.setCell ⟨gb358, 0, none⟩ (.int .i64 ((rd_T27 l0_2 x22_1).f0))).setCell ⟨gb358, 1, none⟩ (.slice A357_1 ((rd_T27 l0_2 x22_1).f1).length c357_1)).setCell ⟨gb358, 2, none⟩ (.slice A357_2 ((rd_T27 l0_2 x22_1).f2).length c357_2)) w.heap.size (fun k_ => (P0_2_ k_ ∨ w.heap.size ≤ k_) ∧ some k_ ≠ (u356001 : Value).ownBlock ∧ k_ ≠ gb347 ∧ k_ ≠ gb348 ∧ k_ ≠ gb355 ∧ k_ ≠ gb358) (.slice A357_1 ((rd_T27 l0_2 x22_1).f1).length c357_1) ((rd_T27 l0_2 x22_1).f1)) := ⟨by (with_reducible repeat (first | apply Kd.V_alloc | apply Kd.V_drewN | apply Kd.V_drew)); exact Kd.V_mono (Kd.V_fw3 HL357_1.out (fun _ hk => hk.2)) (fun _ hk => ⟨hk.1.1, ⟨hk.1.2.1, ⟨hk.1.2.2.1, ⟨hk.1.2.2.2.1, ⟨hk.1.2.2.2.2, hk.2⟩⟩⟩⟩⟩)⟩
          have n5_ : Aside0 (Kd.V k27 27 (((w24.setCell ⟨gb358, 0, none⟩ (.int .i64 ((rd_T27 l0_2 x22_1).f0))).setCell ⟨gb358, 1, none⟩ (.slice A357_1 ((rd_T27 l0_2 x22_1).f1).length c357_1)).setCell ⟨gb358, 2, none⟩ (.slice A357_2 ((rd_T27 l0_2 x22_1).f2).length c357_2)) w.heap.size (fun k_ => (P0_2_ k_ ∨ w.heap.size ≤ k_) ∧ some k_ ≠ (u356001 : Value).ownBlock ∧ k_ ≠ gb347 ∧ k_ ≠ gb348 ∧ k_ ≠ gb355 ∧ k_ ≠ gb358) (.slice A357_2 ((rd_T27 l0_2 x22_1).f2).length c357_2) ((rd_T27 l0_2 x22_1).f2)) := ⟨by (with_reducible repeat (first | apply Kd.V_alloc | apply Kd.V_drewN | apply Kd.V_drew)); exact Kd.V_mono (Kd.V_fw3 HL357_2.out (fun _ hk => hk.2)) (fun _ hk => ⟨hk.1.1, ⟨hk.1.2.1, ⟨hk.1.2.2.1, ⟨hk.1.2.2.2.1, ⟨hk.1.2.2.2.2, hk.2⟩⟩⟩⟩⟩)⟩
          have n6_ : Aside0 ((((w24.setCell ⟨gb358, 0, none⟩ (.int .i64 ((rd_T27 l0_2 x22_1).f0))).setCell ⟨gb358, 1, none⟩ (.slice A357_1 ((rd_T27 l0_2 x22_1).f1).length c357_1)).setCell ⟨gb358, 2, none⟩ (.slice A357_2 ((rd_T27 l0_2 x22_1).f2).length c357_2)).heap[gb347]? = some (.cells #[.int .i64 a0_0, .slice A0_1 l0_1.length c0_1, .slice (some ad357) l0_2.length c0_2] 27 (0, 0))) := ⟨bF BK347⟩
          have n7_ : Aside0 ((((w24.setCell ⟨gb358, 0, none⟩ (.int .i64 ((rd_T27 l0_2 x22_1).f0))).setCell ⟨gb358, 1, none⟩ (.slice A357_1 ((rd_T27 l0_2 x22_1).f1).length c357_1)).setCell ⟨gb358, 2, none⟩ (.slice A357_2 ((rd_T27 l0_2 x22_1).f2).length c357_2)).heap[gb348]? = some (.cells #[.int .i64 0, .slice none 0 0, .slice none 0 0] 27 (0, 0))) := ⟨bF BK348⟩
          have n8_ : Aside0 ((((w24.setCell ⟨gb358, 0, none⟩ (.int .i64 ((rd_T27 l0_2 x22_1).f0))).setCell ⟨gb358, 1, none⟩ (.slice A357_1 ((rd_T27 l0_2 x22_1).f1).length c357_1)).setCell ⟨gb358, 2, none⟩ (.slice A357_2 ((rd_T27 l0_2 x22_1).f2).length c357_2)).heap[gb355]? = some (.cells #[.int .i64 a0_0, u356001, u356002] 27 (0, 0))) := ⟨bF BK355⟩
          have n9_ : Aside0 ((((w24.setCell ⟨gb358, 0, none⟩ (.int .i64 ((rd_T27 l0_2 x22_1).f0))).setCell ⟨gb358, 1, none⟩ (.slice A357_1 ((rd_T27 l0_2 x22_1).f1).length c357_1)).setCell ⟨gb358, 2, none⟩ (.slice A357_2 ((rd_T27 l0_2 x22_1).f2).length c357_2)).heap[gb358]? = some (.cells #[.int .i64 ((rd_T27 l0_2 x22_1).f0), .slice A357_1 ((rd_T27 l0_2 x22_1).f1).length c357_1, .slice A357_2 ((rd_T27 l0_2 x22_1).f2).length c357_2] 27 (0, 0))) := ⟨bP3 BK358⟩
          have n10_ : Aside0 (Below w.heap.size w (((w24.setCell ⟨gb358, 0, none⟩ (.int .i64 ((rd_T27 l0_2 x22_1).f0))).setCell ⟨gb358, 1, none⟩ (.slice A357_1 ((rd_T27 l0_2 x22_1).f1).length c357_1)).setCell ⟨gb358, 2, none⟩ (.slice A357_2 ((rd_T27 l0_2 x22_1).f2).length c357_2))) := ⟨bB HB⟩
          (try clear HO_20)
          (try clear HO_348002)
          (try clear HO_356001)
          (try clear HO_356002)
          (try clear HL357_1)
          (try clear HL357_2)
          (try clear BK347)
          (try clear BK348)
          (try clear BK355)
          (try clear BK358)
          (try clear HB)
          generalize (((w24.setCell ⟨gb358, 0, none⟩ (.int .i64 ((rd_T27 l0_2 x22_1).f0))).setCell ⟨gb358, 1, none⟩ (.slice A357_1 ((rd_T27 l0_2 x22_1).f1).length c357_1)).setCell ⟨gb358, 2, none⟩ (.slice A357_2 ((rd_T27 l0_2 x22_1).f2).length c357_2)) = w35 at n0_ n1_ n2_ n3_ n4_ n5_ n6_ n7_ n8_ n9_ n10_ ⊢
          have HO_20 := n0_
          have HO_348002 := n1_
          have HO_356001 := n2_
          have HO_356002 := n3_
          have HL357_1 := n4_
          have HL357_2 := n5_
          have BK347 := n6_
          have BK348 := n7_
          have BK355 := n8_
          have BK358 := n9_
          have HB := n10_
          clear n0_ n1_ n2_ n3_ n4_ n5_ n6_ n7_ n8_ n9_ n10_
          replace HO_20 := Aside0.mk (Kd.V_drew HO_20.out)
          replace HO_348002 := Aside0.mk (Kd.V_drew HO_348002.out)
          replace HO_356001 := Aside0.mk (Kd.R_drew HO_356001.out)
          replace HO_356002 := Aside0.mk (Kd.V_drew HO_356002.out)
          replace HL357_1 := Aside0.mk (Kd.V_drew HL357_1.out)
          replace HL357_2 := Aside0.mk (Kd.V_drew HL357_2.out)
          replace BK347 := Aside0.mk (blk_drew BK347.out)
          replace BK348 := Aside0.mk (blk_drew BK348.out)
          replace BK355 := Aside0.mk (blk_drew BK355.out)
          replace BK358 := Aside0.mk (blk_drew BK358.out)
          replace HB := Aside0.mk (below_drew1 HB.out)
          refine start_ (n := 17) (S := fun w' => w'.cell? ⟨gb358, 0, none⟩ = some (.int .i64 ((rd_T27 l0_2 x22_1).f0)) ∧ w'.cell? ⟨gb358, 1, none⟩ = some (.slice A357_1 ((rd_T27 l0_2 x22_1).f1).length c357_1) ∧ w'.cell? ⟨gb358, 2, none⟩ = some (.slice A357_2 ((rd_T27 l0_2 x22_1).f2).length c357_2)) (ds := []) #[false, false, false, false, false, false, false, false, false, false, false, false, false, false, false, false, false] (by kernel_rfl) rfl rfl ⟨bC0 BK358, bC1 BK358, bC2 BK358⟩ (fun hHeld => ?_); refine with_tabW trustquorumref04_merged.tab5 trustquorumref04_merged.bits5 (fun HT_ HW_ => ?_)
          generalize w35.drew = w36 at HO_20 HO_348002 HO_356001 HO_356002 HL357_1 HL357_2 BK347 BK348 BK355 BK358 HB hHeld ⊢
          refine pureA_ 0 26 HT_ ?_
          refine pureA_ 1 27 HT_ ?_
          refine pureA_ 2 28 HT_ ?_
          refine pureA_ 3 29 HT_ ?_
          refine takeA_ 4 30 HT_ HW_ hHeld ?_
          refine pureA_ 5 31 HT_ ?_
          refine pureA_ 6 32 HT_ ?_
          refine pureA_ 7 33 HT_ ?_
          refine pureA_ 8 34 HT_ ?_
          refine pureA_ 9 35 HT_ ?_
          refine pureU_ 10 36 HT_ ?_
          refine pureU_ 11 37 HT_ ?_
          refine pureU_ 12 38 HT_ ?_
          refine pureU_ 13 39 HT_ ?_
          refine pureU_ 14 40 HT_ ?_
          refine pureA_ 15 41 HT_ ?_
          refine pureA_ 16 42 HT_ ?_
          refine done_ (done_of HT_.out (by kernel_rfl)) ?_
          try go_wp2
          go_meet
          case rel => exact ⟨_, (false), (by first | rfl | (simp; done) | (simp [*]; done)), H', ⟨by have := HK1.out; first | omega | exact Nat.le_refl _⟩, ⟨Kd.uV HO_20⟩, ⟨Kd.uV HO_348002⟩, ⟨Kd.uR HO_356001⟩, ⟨Kd.uV HO_356002⟩, ⟨Kd.uV HL357_1⟩, ⟨Kd.uV HL357_2⟩, ⟨bU BK347⟩, ⟨bU BK348⟩, ⟨bU BK355⟩, ⟨bU BK358⟩, ⟨bB HB⟩⟩
         ·rw [if_neg c34] at H
          have c34b0 : (((rd_T27 l0_2 x22_1).f0) == 1) = false := beq_eq_false_iff_ne.mpr c34
          have c34b1 : (((rd_T27 l0_2 x22_1).f0) != 1) = true := bne_iff_ne.mpr c34
          (first | rw [c34b0] | (simp only [i64_w, i32_w]; rw [c34b0]) | skip)
          have H' := Aside0.mk H
          clear H
          try go_wp2
          have n0_ : Aside0 (Kd.V k27 27 (((w24.setCell ⟨gb358, 0, none⟩ (.int .i64 ((rd_T27 l0_2 x22_1).f0))).setCell ⟨gb358, 1, none⟩ (.slice A357_1 ((rd_T27 l0_2 x22_1).f1).length c357_1)).setCell ⟨gb358, 2, none⟩ (.slice A357_2 ((rd_T27 l0_2 x22_1).f2).length c357_2)) w.heap.size (fun k_ => (P0_2_ k_ ∨ w.heap.size ≤ k_) ∧ some k_ ≠ (u356001 : Value).ownBlock ∧ k_ ≠ gb347 ∧ k_ ≠ gb348 ∧ k_ ≠ gb355 ∧ k_ ≠ gb358) (.slice (some ad357) l0_2.length c0_2) l0_2) := ⟨by (with_reducible repeat (first | apply Kd.V_alloc | apply Kd.V_drewN | apply Kd.V_drew)); exact Kd.V_mono (Kd.V_fw3 HO_20.out (fun _ hk => hk.2)) (fun _ hk => ⟨hk.1.1, ⟨hk.1.2.1, ⟨hk.1.2.2.1, ⟨hk.1.2.2.2.1, ⟨hk.1.2.2.2.2, hk.2⟩⟩⟩⟩⟩)⟩
          have n1_ : Aside0 (Kd.V k27 27 (((w24.setCell ⟨gb358, 0, none⟩ (.int .i64 ((rd_T27 l0_2 x22_1).f0))).setCell ⟨gb358, 1, none⟩ (.slice A357_1 ((rd_T27 l0_2 x22_1).f1).length c357_1)).setCell ⟨gb358, 2, none⟩ (.slice A357_2 ((rd_T27 l0_2 x22_1).f2).length c357_2)) w.heap.size (fun k_ => (P0_2_ k_ ∨ w.heap.size ≤ k_) ∧ some k_ ≠ (u356001 : Value).ownBlock ∧ k_ ≠ gb347 ∧ k_ ≠ gb348 ∧ k_ ≠ gb355 ∧ k_ ≠ gb358) (.slice (some ad357) l0_2.length c0_2) l0_2) := ⟨by (with_reducible repeat (first | apply Kd.V_alloc | apply Kd.V_drewN | apply Kd.V_drew)); exact Kd.V_mono (Kd.V_fw3 HO_348002.out (fun _ hk => hk.2)) (fun _ hk => ⟨hk.1.1, ⟨hk.1.2.1, ⟨hk.1.2.2.1, ⟨hk.1.2.2.2.1, ⟨hk.1.2.2.2.2, hk.2⟩⟩⟩⟩⟩)⟩
          have n2_ : Aside0 (Kd.R (Kd.int .i64) 3 (((w24.setCell ⟨gb358, 0, none⟩ (.int .i64 ((rd_T27 l0_2 x22_1).f0))).setCell ⟨gb358, 1, none⟩ (.slice A357_1 ((rd_T27 l0_2 x22_1).f1).length c357_1)).setCell ⟨gb358, 2, none⟩ (.slice A357_2 ((rd_T27 l0_2 x22_1).f2).length c357_2)) w.heap.size (fun k_ => (w.heap.size ≤ k_)) u356001 x356001_1) := ⟨by (with_reducible repeat (first | apply Kd.R_alloc | apply Kd.R_drewN | apply Kd.R_drew)); exact Kd.R_ft3 (Kd.R_types HO_356001.out BK358.out (by decide))⟩
          have n3_ : Aside0 (Kd.V k27 27 (((w24.setCell ⟨gb358, 0, none⟩ (.int .i64 ((rd_T27 l0_2 x22_1).f0))).setCell ⟨gb358, 1, none⟩ (.slice A357_1 ((rd_T27 l0_2 x22_1).f1).length c357_1)).setCell ⟨gb358, 2, none⟩ (.slice A357_2 ((rd_T27 l0_2 x22_1).f2).length c357_2)) w.heap.size (fun k_ => (P0_2_ k_ ∨ w.heap.size ≤ k_) ∧ some k_ ≠ (u356001 : Value).ownBlock ∧ k_ ≠ gb347 ∧ k_ ≠ gb348 ∧ k_ ≠ gb355 ∧ k_ ≠ gb358) u356002 x356002_1) := ⟨by (with_reducible repeat (first | apply Kd.V_alloc | apply Kd.V_drewN | apply Kd.V_drew)); exact Kd.V_mono (Kd.V_fw3 HO_356002.out (fun _ hk => hk.2)) (fun _ hk => ⟨hk.1.1, ⟨hk.1.2.1, ⟨hk.1.2.2.1, ⟨hk.1.2.2.2.1, ⟨hk.1.2.2.2.2, hk.2⟩⟩⟩⟩⟩)⟩
          have n4_ : Aside0 (Kd.V (Kd.int .i64) 3 (((w24.setCell ⟨gb358, 0, none⟩ (.int .i64 ((rd_T27 l0_2 x22_1).f0))).setCell ⟨gb358, 1, none⟩ (.slice A357_1 ((rd_T27 l0_2 x22_1).f1).length c357_1)).setCell ⟨gb358, 2, none⟩ (.slice A357_2 ((rd_T27 l0_2 x22_1).f2).length c357_2)) w.heap.size (fun k_ => (P0_2_ k_ ∨ w.heap.size ≤ k_) ∧ some k_ ≠ (u356001 : Value).ownBlock ∧ k_ ≠ gb347 ∧ k_ ≠ gb348 ∧ k_ ≠ gb355 ∧ k_ ≠ gb358) (.slice A357_1 ((rd_T27 l0_2 x22_1).f1).length c357_1) ((rd_T27 l0_2 x22_1).f1)) := ⟨by (with_reducible repeat (first | apply Kd.V_alloc | apply Kd.V_drewN | apply Kd.V_drew)); exact Kd.V_mono (Kd.V_fw3 HL357_1.out (fun _ hk => hk.2)) (fun _ hk => ⟨hk.1.1, ⟨hk.1.2.1, ⟨hk.1.2.2.1, ⟨hk.1.2.2.2.1, ⟨hk.1.2.2.2.2, hk.2⟩⟩⟩⟩⟩)⟩
          have n5_ : Aside0 (Kd.V k27 27 (((w24.setCell ⟨gb358, 0, none⟩ (.int .i64 ((rd_T27 l0_2 x22_1).f0))).setCell ⟨gb358, 1, none⟩ (.slice A357_1 ((rd_T27 l0_2 x22_1).f1).length c357_1)).setCell ⟨gb358, 2, none⟩ (.slice A357_2 ((rd_T27 l0_2 x22_1).f2).length c357_2)) w.heap.size (fun k_ => (P0_2_ k_ ∨ w.heap.size ≤ k_) ∧ some k_ ≠ (u356001 : Value).ownBlock ∧ k_ ≠ gb347 ∧ k_ ≠ gb348 ∧ k_ ≠ gb355 ∧ k_ ≠ gb358) (.slice A357_2 ((rd_T27 l0_2 x22_1).f2).length c357_2) ((rd_T27 l0_2 x22_1).f2)) := ⟨by (with_reducible repeat (first | apply Kd.V_alloc | apply Kd.V_drewN | apply Kd.V_drew)); exact Kd.V_mono (Kd.V_fw3 HL357_2.out (fun _ hk => hk.2)) (fun _ hk => ⟨hk.1.1, ⟨hk.1.2.1, ⟨hk.1.2.2.1, ⟨hk.1.2.2.2.1, ⟨hk.1.2.2.2.2, hk.2⟩⟩⟩⟩⟩)⟩
          have n6_ : Aside0 ((((w24.setCell ⟨gb358, 0, none⟩ (.int .i64 ((rd_T27 l0_2 x22_1).f0))).setCell ⟨gb358, 1, none⟩ (.slice A357_1 ((rd_T27 l0_2 x22_1).f1).length c357_1)).setCell ⟨gb358, 2, none⟩ (.slice A357_2 ((rd_T27 l0_2 x22_1).f2).length c357_2)).heap[gb347]? = some (.cells #[.int .i64 a0_0, .slice A0_1 l0_1.length c0_1, .slice (some ad357) l0_2.length c0_2] 27 (0, 0))) := ⟨bF BK347⟩
          have n7_ : Aside0 ((((w24.setCell ⟨gb358, 0, none⟩ (.int .i64 ((rd_T27 l0_2 x22_1).f0))).setCell ⟨gb358, 1, none⟩ (.slice A357_1 ((rd_T27 l0_2 x22_1).f1).length c357_1)).setCell ⟨gb358, 2, none⟩ (.slice A357_2 ((rd_T27 l0_2 x22_1).f2).length c357_2)).heap[gb348]? = some (.cells #[.int .i64 0, .slice none 0 0, .slice none 0 0] 27 (0, 0))) := ⟨bF BK348⟩
          have n8_ : Aside0 ((((w24.setCell ⟨gb358, 0, none⟩ (.int .i64 ((rd_T27 l0_2 x22_1).f0))).setCell ⟨gb358, 1, none⟩ (.slice A357_1 ((rd_T27 l0_2 x22_1).f1).length c357_1)).setCell ⟨gb358, 2, none⟩ (.slice A357_2 ((rd_T27 l0_2 x22_1).f2).length c357_2)).heap[gb355]? = some (.cells #[.int .i64 a0_0, u356001, u356002] 27 (0, 0))) := ⟨bF BK355⟩
          have n9_ : Aside0 ((((w24.setCell ⟨gb358, 0, none⟩ (.int .i64 ((rd_T27 l0_2 x22_1).f0))).setCell ⟨gb358, 1, none⟩ (.slice A357_1 ((rd_T27 l0_2 x22_1).f1).length c357_1)).setCell ⟨gb358, 2, none⟩ (.slice A357_2 ((rd_T27 l0_2 x22_1).f2).length c357_2)).heap[gb358]? = some (.cells #[.int .i64 ((rd_T27 l0_2 x22_1).f0), .slice A357_1 ((rd_T27 l0_2 x22_1).f1).length c357_1, .slice A357_2 ((rd_T27 l0_2 x22_1).f2).length c357_2] 27 (0, 0))) := ⟨bP3 BK358⟩
          have n10_ : Aside0 (Below w.heap.size w (((w24.setCell ⟨gb358, 0, none⟩ (.int .i64 ((rd_T27 l0_2 x22_1).f0))).setCell ⟨gb358, 1, none⟩ (.slice A357_1 ((rd_T27 l0_2 x22_1).f1).length c357_1)).setCell ⟨gb358, 2, none⟩ (.slice A357_2 ((rd_T27 l0_2 x22_1).f2).length c357_2))) := ⟨bB HB⟩
          (try clear HO_20)
          (try clear HO_348002)
          (try clear HO_356001)
          (try clear HO_356002)
          (try clear HL357_1)
          (try clear HL357_2)
          (try clear BK347)
          (try clear BK348)
          (try clear BK355)
          (try clear BK358)
          (try clear HB)
          generalize (((w24.setCell ⟨gb358, 0, none⟩ (.int .i64 ((rd_T27 l0_2 x22_1).f0))).setCell ⟨gb358, 1, none⟩ (.slice A357_1 ((rd_T27 l0_2 x22_1).f1).length c357_1)).setCell ⟨gb358, 2, none⟩ (.slice A357_2 ((rd_T27 l0_2 x22_1).f2).length c357_2)) = w37 at n0_ n1_ n2_ n3_ n4_ n5_ n6_ n7_ n8_ n9_ n10_ ⊢
          have HO_20 := n0_
          have HO_348002 := n1_
          have HO_356001 := n2_
          have HO_356002 := n3_
          have HL357_1 := n4_
          have HL357_2 := n5_
          have BK347 := n6_
          have BK348 := n7_
          have BK355 := n8_
          have BK358 := n9_
          have HB := n10_
          clear n0_ n1_ n2_ n3_ n4_ n5_ n6_ n7_ n8_ n9_ n10_
          replace HO_20 := Aside0.mk (Kd.V_drew HO_20.out)
          replace HO_348002 := Aside0.mk (Kd.V_drew HO_348002.out)
          replace HO_356001 := Aside0.mk (Kd.R_drew HO_356001.out)
          replace HO_356002 := Aside0.mk (Kd.V_drew HO_356002.out)
          replace HL357_1 := Aside0.mk (Kd.V_drew HL357_1.out)
          replace HL357_2 := Aside0.mk (Kd.V_drew HL357_2.out)
          replace BK347 := Aside0.mk (blk_drew BK347.out)
          replace BK348 := Aside0.mk (blk_drew BK348.out)
          replace BK355 := Aside0.mk (blk_drew BK355.out)
          replace BK358 := Aside0.mk (blk_drew BK358.out)
          replace HB := Aside0.mk (below_drew1 HB.out)
          refine start_ (n := 17) (S := fun w' => w'.cell? ⟨gb358, 0, none⟩ = some (.int .i64 ((rd_T27 l0_2 x22_1).f0)) ∧ w'.cell? ⟨gb358, 1, none⟩ = some (.slice A357_1 ((rd_T27 l0_2 x22_1).f1).length c357_1) ∧ w'.cell? ⟨gb358, 2, none⟩ = some (.slice A357_2 ((rd_T27 l0_2 x22_1).f2).length c357_2)) (ds := []) #[false, false, false, false, false, false, false, false, false, false, false, false, false, false, false, false, false] (by kernel_rfl) rfl rfl ⟨bC0 BK358, bC1 BK358, bC2 BK358⟩ (fun hHeld => ?_); refine with_tabW trustquorumref04_merged.tab5 trustquorumref04_merged.bits5 (fun HT_ HW_ => ?_)
          generalize w37.drew = w38 at HO_20 HO_348002 HO_356001 HO_356002 HL357_1 HL357_2 BK347 BK348 BK355 BK358 HB hHeld ⊢
          refine pureA_ 0 26 HT_ ?_
          refine pureA_ 1 27 HT_ ?_
          refine pureA_ 2 28 HT_ ?_
          refine pureA_ 3 29 HT_ ?_
          refine takeA_ 4 30 HT_ HW_ hHeld ?_
          refine pureA_ 5 31 HT_ ?_
          refine pureA_ 6 32 HT_ ?_
          refine pureA_ 7 33 HT_ ?_
          refine pureU_ 8 34 HT_ ?_
          refine pureU_ 9 35 HT_ ?_
          refine pureU_ 10 36 HT_ ?_
          refine pureU_ 11 37 HT_ ?_
          refine pureU_ 12 38 HT_ ?_
          refine pureU_ 13 39 HT_ ?_
          refine pureU_ 14 40 HT_ ?_
          refine pureU_ 15 41 HT_ ?_
          refine pureA_ 16 42 HT_ ?_
          refine done_ (done_of HT_.out (by kernel_rfl)) ?_
          try go_wp2
          go_meet
          case rel => exact ⟨_, (true), (by first | rfl | (simp; done) | (simp [*]; done)), H', ⟨by have := HK1.out; first | omega | exact Nat.le_refl _⟩, ⟨Kd.uV HO_20⟩, ⟨Kd.uV HO_348002⟩, ⟨Kd.uR HO_356001⟩, ⟨Kd.uV HO_356002⟩, ⟨Kd.uV HL357_1⟩, ⟨Kd.uV HL357_2⟩, ⟨bU BK347⟩, ⟨bU BK348⟩, ⟨bU BK355⟩, ⟨bU BK358⟩, ⟨bB HB⟩⟩
       case rest =>
        clear HC23
        try clear c2
        try clear p2
        try clear c3
        try clear c5
        try clear c29
        try clear c34
        try clear c34b0
        try clear c34b1
        try clear c35
        obtain ⟨kq, x42_22, rfl, HA, HJ22, HO_20, HO_348002, HO_356001, HO_356002, HO_359001, HO_359002, BK347, BK348, BK355, BK358, HB⟩ := hcut
        cases kq with
        | zero => exact absurd HA.out (by simp [trustquorumref04_merged.j1])
        | succ kj22 =>
         have H := HA.out
         clear HA
         simp only [trustquorumref04_merged.j1] at H
         by_cases c39 : x42_22 = true
         ·subst c39
          have H1 : ((trustquorumref04_with.f kj22 x356002_1 ((rd_T27 l0_2 x22_1).f0) ((rd_T27 l0_2 x22_1).f1) ((rd_T27 l0_2 x22_1).f2)).bind fun t360 => (trustquorumref04_merged.l0 kj22 a1 l0_2 (l0_2.length : Int) (wrap64 (x22_1 + 1)) a0_0 x356001_1 t360)) = some (r1, r2, r3) := by rw [if_pos rfl] at H; exact H
          clear H
          have H := H1
          clear H1
          replace H := Option.bind_eq_some_iff.mp H
          obtain ⟨t360, A400, H⟩ := H
          replace H : (trustquorumref04_merged.l0 kj22 a1 l0_2 (l0_2.length : Int) (wrap64 (x22_1 + 1)) a0_0 x356001_1 t360) = some (r1, r2, r3) := H
          have A40 := Aside0.mk A400
          clear A400
          have H' := Aside0.mk H
          clear H
          have hnb41 := NB355_347.out
          have hnc41 := NB347_355.out
          have hnb42 := NB355_348.out
          have hnc42 := NB348_355.out
          have hnb43 := NB355_358.out
          have hnc43 := NB358_355.out
          have hcz44_0 := bC0 BK355
          have hcz44_1 := bC1 BK355
          have hcz44_2 := bC2 BK355
          have hfz44_0 := blk_frozen BK355.out 0
          have hfz44_1 := blk_frozen BK355.out 1
          have hfz44_2 := blk_frozen BK355.out 2
          have hnb45 := NB358_347.out
          have hnc45 := NB347_358.out
          have hnb46 := NB358_348.out
          have hnc46 := NB348_358.out
          have hcz47_0 := bC0 BK358
          have hcz47_1 := bC1 BK358
          have hcz47_2 := bC2 BK358
          have hfz47_0 := blk_frozen BK358.out 0
          have hfz47_1 := blk_frozen BK358.out 1
          have hfz47_2 := blk_frozen BK358.out 2
          obtain ⟨Ao48, co48, eo48⟩ := Kd.V_slice HO_356002.out
          subst eo48
          go_wp2_with (first | ((with_reducible refine gate_callee (f := 67) rfl ?_); refine goesA_ (some 46) rfl rfl Try.func67 rfl #[.slice Ao48 x356002_1.length co48, .agg #[.int .i64 ((rd_T27 l0_2 x22_1).f0), .slice A357_1 ((rd_T27 l0_2 x22_1).f1).length c357_1, .slice A357_2 ((rd_T27 l0_2 x22_1).f2).length c357_2]] rfl ?_; (with_reducible refine (trustquorumref04_with.calls kj22 (fun k_ => ((P0_2_ k_ ∨ w.heap.size ≤ k_) ∧ (some k_ ≠ (u356001 : Value).ownBlock ∧ (k_ ≠ gb347 ∧ (k_ ≠ gb348 ∧ (k_ ≠ gb355 ∧ k_ ≠ gb358)))))) _ _ x356002_1 ((rd_T27 l0_2 x22_1).f0) (fun k_ => ((P0_2_ k_ ∨ w.heap.size ≤ k_) ∧ (some k_ ≠ (u356001 : Value).ownBlock ∧ (k_ ≠ gb347 ∧ (k_ ≠ gb348 ∧ (k_ ≠ gb355 ∧ k_ ≠ gb358)))))) _ _ ((rd_T27 l0_2 x22_1).f1) (fun k_ => ((P0_2_ k_ ∨ w.heap.size ≤ k_) ∧ (some k_ ≠ (u356001 : Value).ownBlock ∧ (k_ ≠ gb347 ∧ (k_ ≠ gb348 ∧ (k_ ≠ gb355 ∧ k_ ≠ gb358)))))) _ _ ((rd_T27 l0_2 x22_1).f2) t360 _ ?side1 ?side2 ?side3 A40.out).mono ?_); (case side1 => exact HO_356002.out); (case side2 => exact HO_359001.out); (case side3 => exact HO_359002.out); rintro e w49 ⟨v361, rfl, ho0, hb⟩; refine ⟨_, rfl, ?_⟩; replace HO_20 := Kd.bV HO_20 hb; replace HO_348002 := Kd.bV HO_348002 hb; replace HO_356002 := Kd.bV HO_356002 hb; replace HO_359001 := Kd.bV HO_359001 hb; replace HO_359002 := Kd.bV HO_359002 hb; have HO362 := Aside0.mk (Kd.V_lower (Kd.V_mono (ok' := fun k_ => (P0_2_ k_ ∨ w.heap.size ≤ k_) ∧ some k_ ≠ (u356001 : Value).ownBlock ∧ k_ ≠ gb347 ∧ k_ ≠ gb348 ∧ k_ ≠ gb355 ∧ k_ ≠ gb358) ho0 (fun k_ hk_ => ⟨Or.elim hk_ (fun hs_ => Or.elim hs_ (fun hs_ => hs_.1) (fun hs_ => Or.elim hs_ (fun hs_ => hs_.1) (fun hs_ => hs_.1))) (fun hn_ => (.inr (Nat.le_trans (below_size (bB HB)) hn_))), Or.elim hk_ (fun hs_ => Or.elim hs_ (fun hs_ => hs_.2.1) (fun hs_ => Or.elim hs_ (fun hs_ => hs_.2.1) (fun hs_ => hs_.2.1))) (fun hn_ => (Kd.fresh' (Kd.R_lt (Kd.uR HO_356001)) k_ hn_)), Or.elim hk_ (fun hs_ => Or.elim hs_ (fun hs_ => hs_.2.2.1) (fun hs_ => Or.elim hs_ (fun hs_ => hs_.2.2.1) (fun hs_ => hs_.2.2.1))) (fun hn_ => (Kd.freshB (bU BK347) k_ hn_)), Or.elim hk_ (fun hs_ => Or.elim hs_ (fun hs_ => hs_.2.2.2.1) (fun hs_ => Or.elim hs_ (fun hs_ => hs_.2.2.2.1) (fun hs_ => hs_.2.2.2.1))) (fun hn_ => (Kd.freshB (bU BK348) k_ hn_)), Or.elim hk_ (fun hs_ => Or.elim hs_ (fun hs_ => hs_.2.2.2.2.1) (fun hs_ => Or.elim hs_ (fun hs_ => hs_.2.2.2.2.1) (fun hs_ => hs_.2.2.2.2.1))) (fun hn_ => (Kd.freshB (bU BK355) k_ hn_)), Or.elim hk_ (fun hs_ => Or.elim hs_ (fun hs_ => hs_.2.2.2.2.2) (fun hs_ => Or.elim hs_ (fun hs_ => hs_.2.2.2.2.2) (fun hs_ => hs_.2.2.2.2.2))) (fun hn_ => (Kd.freshB (bU BK358) k_ hn_))⟩)) (below_size (bB HB))); replace HO_356001 := Kd.bR HO_356001 hb; replace BK347 := bb BK347 hb; replace BK348 := bb BK348 hb; replace BK355 := bb BK355 hb; replace BK358 := bb BK358 hb; replace HB := bs HB hb; (try clear hb); (try clear hb2); (try clear hk); (try clear hi); (try clear ho0); obtain ⟨Ao50, co50, eo50⟩ := Kd.V_slice HO362.out; subst eo50; have hcz51_0 := bC0 BK355; have hcz51_1 := bC1 BK355; have hcz51_2 := bC2 BK355; have hfz51_0 := blk_frozen BK355.out 0; have hfz51_1 := blk_frozen BK355.out 1; have hfz51_2 := blk_frozen BK355.out 2))
          go_roundg kj22
          case measure => have := HK1.out; have := HJ22.out; omega
          case rel => exact ⟨(wrap64 (x22_1 + 1)), (x356001_1), (t360), (u356001), (.slice Ao50 t360.length co50), (by first | rfl | (simp; done) | (simp [*]; done)), H', ⟨by have := HK1.out; have := HJ22.out; omega⟩, ⟨by (with_reducible repeat (first | apply Kd.V_alloc | apply Kd.V_drewN | apply Kd.V_drew)); exact Kd.V_mono (Kd.V_fw1 HO_20.out (fun _ hk => hk.2.2.2.2.1)) (fun _ hk => ⟨hk.1, ⟨hk.2.1, ⟨hk.2.2.1, ⟨hk.2.2.2.1, hk.2.2.2.2.1⟩⟩⟩⟩)⟩, ⟨by (with_reducible repeat (first | apply Kd.V_alloc | apply Kd.V_drewN | apply Kd.V_drew)); exact Kd.V_mono (Kd.V_fw1 HO_348002.out (fun _ hk => hk.2.2.2.2.1)) (fun _ hk => ⟨hk.1, ⟨hk.2.1, ⟨hk.2.2.1, ⟨hk.2.2.2.1, hk.2.2.2.2.1⟩⟩⟩⟩)⟩, ⟨by (with_reducible repeat (first | apply Kd.R_alloc | apply Kd.R_drewN | apply Kd.R_drew)); exact Kd.R_ft1 (Kd.R_types HO_356001.out BK355.out (by decide))⟩, ⟨by (with_reducible repeat (first | apply Kd.V_alloc | apply Kd.V_drewN | apply Kd.V_drew)); exact Kd.V_mono (Kd.V_fw1 HO362.out (fun _ hk => hk.2.2.2.2.1)) (fun _ hk => ⟨hk.1, ⟨hk.2.1, ⟨hk.2.2.1, ⟨hk.2.2.2.1, hk.2.2.2.2.1⟩⟩⟩⟩)⟩, ⟨bF BK347⟩, ⟨bF BK348⟩, ⟨by (with_reducible repeat (first | refine blk_drewN ?_ _ | refine blk_drew ?_ | refine blk_alloc ?_ _)); refine blk_put (cs := #[.int .i64 a0_0, u356001, .slice Ao48 x356002_1.length co48]) ?_ 2 _ rfl; (with_reducible repeat (first | refine blk_drewN ?_ _ | refine blk_drew ?_ | refine blk_alloc ?_ _)); exact BK355.out⟩, ⟨bB HB⟩⟩
         ·replace c39 := Bool.eq_false_iff.mpr c39
          subst c39
          have H1 : (trustquorumref04_merged.l1 kj22 a1 l0_2 (l0_2.length : Int) x22_1 ((rd_T27 l0_2 x22_1).f1) (((rd_T27 l0_2 x22_1).f1).length : Int) 0 a0_0 x356001_1 x356002_1 ((rd_T27 l0_2 x22_1).f0) ((rd_T27 l0_2 x22_1).f1) ((rd_T27 l0_2 x22_1).f2)) = some (r1, r2, r3) := by rw [if_neg (show ¬ (false = true) by decide)] at H; exact H
          clear H
          have H := H1
          clear H1
          have H' := Aside0.mk H
          clear H
          have hnb52 := NB358_347.out
          have hnc52 := NB347_358.out
          have hnb53 := NB358_348.out
          have hnc53 := NB348_358.out
          have hnb54 := NB358_355.out
          have hnc54 := NB355_358.out
          have hcz55_0 := bC0 BK358
          have hcz55_1 := bC1 BK358
          have hcz55_2 := bC2 BK358
          have hfz55_0 := blk_frozen BK358.out 0
          have hfz55_1 := blk_frozen BK358.out 1
          have hfz55_2 := blk_frozen BK358.out 2
          go_wp2
          go_loopg [51] kj22 (fun kq v51 w' => ∃ (x51_3 : Int) (x356001_3 : List Int) (u356001 : Value), v51 = .int .i64 x51_3 ∧ Aside0 (trustquorumref04_merged.l1 kq a1 l0_2 (l0_2.length : Int) x22_1 ((rd_T27 l0_2 x22_1).f1) (((rd_T27 l0_2 x22_1).f1).length : Int) x51_3 a0_0 x356001_3 x356002_1 ((rd_T27 l0_2 x22_1).f0) ((rd_T27 l0_2 x22_1).f1) ((rd_T27 l0_2 x22_1).f2) = some (r1, r2, r3)) ∧ Aside0 (kq ≤ kj22) ∧ Aside0 (Kd.V k27 27 w' w.heap.size (fun k_ => (P0_2_ k_ ∨ w.heap.size ≤ k_) ∧ some k_ ≠ (u356001 : Value).ownBlock ∧ k_ ≠ gb347 ∧ k_ ≠ gb348 ∧ k_ ≠ gb355 ∧ k_ ≠ gb358) (.slice (some ad357) l0_2.length c0_2) l0_2) ∧ Aside0 (Kd.V (Kd.int .i64) 3 w' w.heap.size (fun k_ => (P0_2_ k_ ∨ w.heap.size ≤ k_) ∧ some k_ ≠ (u356001 : Value).ownBlock ∧ k_ ≠ gb347 ∧ k_ ≠ gb348 ∧ k_ ≠ gb355 ∧ k_ ≠ gb358) (.slice A357_1 ((rd_T27 l0_2 x22_1).f1).length c357_1) ((rd_T27 l0_2 x22_1).f1)) ∧ Aside0 (Kd.V k27 27 w' w.heap.size (fun k_ => (P0_2_ k_ ∨ w.heap.size ≤ k_) ∧ some k_ ≠ (u356001 : Value).ownBlock ∧ k_ ≠ gb347 ∧ k_ ≠ gb348 ∧ k_ ≠ gb355 ∧ k_ ≠ gb358) (.slice (some ad357) l0_2.length c0_2) l0_2) ∧ Aside0 (Kd.R (Kd.int .i64) 3 w' w.heap.size (fun k_ => (w.heap.size ≤ k_)) u356001 x356001_3) ∧ Aside0 (Kd.V k27 27 w' w.heap.size (fun k_ => (P0_2_ k_ ∨ w.heap.size ≤ k_) ∧ some k_ ≠ (u356001 : Value).ownBlock ∧ k_ ≠ gb347 ∧ k_ ≠ gb348 ∧ k_ ≠ gb355 ∧ k_ ≠ gb358) u356002 x356002_1) ∧ Aside0 (Kd.V (Kd.int .i64) 3 w' w.heap.size (fun k_ => (P0_2_ k_ ∨ w.heap.size ≤ k_) ∧ some k_ ≠ (u356001 : Value).ownBlock ∧ k_ ≠ gb347 ∧ k_ ≠ gb348 ∧ k_ ≠ gb355 ∧ k_ ≠ gb358) (.slice A357_1 ((rd_T27 l0_2 x22_1).f1).length c357_1) ((rd_T27 l0_2 x22_1).f1)) ∧ Aside0 (Kd.V k27 27 w' w.heap.size (fun k_ => (P0_2_ k_ ∨ w.heap.size ≤ k_) ∧ some k_ ≠ (u356001 : Value).ownBlock ∧ k_ ≠ gb347 ∧ k_ ≠ gb348 ∧ k_ ≠ gb355 ∧ k_ ≠ gb358) (.slice A357_2 ((rd_T27 l0_2 x22_1).f2).length c357_2) ((rd_T27 l0_2 x22_1).f2)) ∧ Aside0 (w'.heap[gb347]? = some (.cells #[.int .i64 a0_0, (.slice A0_1 l0_1.length c0_1), (.slice (some ad357) l0_2.length c0_2)] 27 (0, 0))) ∧ Aside0 (w'.heap[gb348]? = some (.cells #[.int .i64 0, (.slice none 0 0), (.slice none 0 0)] 27 (0, 0))) ∧ Aside0 (w'.heap[gb355]? = some (.cells #[.int .i64 a0_0, u356001, u356002] 27 (0, 0))) ∧ Aside0 (w'.heap[gb358]? = some (.cells #[.int .i64 ((rd_T27 l0_2 x22_1).f0), (.slice A357_1 ((rd_T27 l0_2 x22_1).f1).length c357_1), (.slice A357_2 ((rd_T27 l0_2 x22_1).f2).length c357_2)] 27 (0, 0))) ∧ Aside0 (Below w.heap.size w w'))
          case atStart => exact ⟨(0), (x356001_1), (u356001), (by first | rfl | (simp; done) | (simp [*]; done)), H', ⟨Nat.le_refl _⟩, ⟨Kd.uV HO_20⟩, ⟨Kd.uV HO_359001⟩, ⟨Kd.uV HO_348002⟩, ⟨Kd.uR HO_356001⟩, ⟨Kd.uV HO_356002⟩, ⟨Kd.uV HO_359001⟩, ⟨Kd.uV HO_359002⟩, ⟨bU BK347⟩, ⟨bU BK348⟩, ⟨bU BK355⟩, ⟨bU BK358⟩, ⟨bB HB⟩⟩
          case round =>
           clear H'
           try clear c2
           try clear p2
           try clear c3
           try clear c4
           try clear c5
           try clear c6
           try clear p6
           try clear c29
           try clear c34
           try clear c34b0
           try clear c34b1
           try clear c35
           try clear c39
           try clear c41
           try clear c42
           try clear c43
           try clear c45
           try clear c46
           try clear c51
           try clear c52
           try clear c53
           try clear c54
           try clear hcz44_0
           try clear hcz44_1
           try clear hcz44_2
           try clear hcz47_0
           try clear hcz47_1
           try clear hcz47_2
           try clear hcz51_0
           try clear hcz51_1
           try clear hcz51_2
           try clear hcz55_0
           try clear hcz55_1
           try clear hcz55_2
           try clear hfz44_0
           try clear hfz44_1
           try clear hfz44_2
           try clear hfz47_0
           try clear hfz47_1
           try clear hfz47_2
           try clear hfz51_0
           try clear hfz51_1
           try clear hfz51_2
           try clear hfz55_0
           try clear hfz55_1
           try clear hfz55_2
           try clear p2
           obtain ⟨x51_3, x356001_3, u356001, rfl, HA, HK3, HO_20, HO_49, HO_348002, HO_356001, HO_356002, HO_359001, HO_359002, BK347, BK348, BK355, BK358, HB⟩ := hrel
           cases gk with
           | zero => exact absurd HA.out (by simp [trustquorumref04_merged.l1])
           | succ k3 =>
            have H := HA.out
            clear HA
            simp only [trustquorumref04_merged.l1] at H
            by_cases c56 : x51_3 < (((rd_T27 l0_2 x22_1).f1).length : Int)
            ·rw [if_pos c56] at H
             have c56b0 : decide (x51_3 < (((rd_T27 l0_2 x22_1).f1).length : Int)) = true := decide_eq_true c56
             clear c56
             by_cases c57 : 0 ≤ x51_3
             ·rw [if_pos c57] at H
              have c57b0 : decide (0 ≤ x51_3) = true := decide_eq_true c57
              clear c57
              by_cases c58 : x51_3 < (((rd_T27 l0_2 x22_1).f1).length : Int)
              ·rw [if_pos c58] at H
               have c58b0 : decide (x51_3 < (((rd_T27 l0_2 x22_1).f1).length : Int)) = true := decide_eq_true c58
               clear c58
               replace H := Option.bind_eq_some_iff.mp H
               obtain ⟨t364, A590, H⟩ := H
               replace H : (if t364 = true then (trustquorumref04_merged.l1 k3 a1 l0_2 (l0_2.length : Int) x22_1 ((rd_T27 l0_2 x22_1).f1) (((rd_T27 l0_2 x22_1).f1).length : Int) (wrap64 (x51_3 + 1)) a0_0 x356001_3 x356002_1 ((rd_T27 l0_2 x22_1).f0) ((rd_T27 l0_2 x22_1).f1) ((rd_T27 l0_2 x22_1).f2)) else (if x356001_3.length < 17592186044416 then (trustquorumref04_merged.l1 k3 a1 l0_2 (l0_2.length : Int) x22_1 ((rd_T27 l0_2 x22_1).f1) (((rd_T27 l0_2 x22_1).f1).length : Int) (wrap64 (x51_3 + 1)) a0_0 (x356001_3 ++ [rd ((rd_T27 l0_2 x22_1).f1) x51_3]) x356002_1 ((rd_T27 l0_2 x22_1).f0) ((rd_T27 l0_2 x22_1).f1) ((rd_T27 l0_2 x22_1).f2)) else (none))) = some (r1, r2, r3) := H
               have A59 := Aside0.mk A590
               clear A590
               by_cases c60 : t364 = true
               ·subst c60
                have H1 : (trustquorumref04_merged.l1 k3 a1 l0_2 (l0_2.length : Int) x22_1 ((rd_T27 l0_2 x22_1).f1) (((rd_T27 l0_2 x22_1).f1).length : Int) (wrap64 (x51_3 + 1)) a0_0 x356001_3 x356002_1 ((rd_T27 l0_2 x22_1).f0) ((rd_T27 l0_2 x22_1).f1) ((rd_T27 l0_2 x22_1).f2)) = some (r1, r2, r3) := by rw [if_pos rfl] at H; exact H
                clear H
                have H := H1
                clear H1
                have H' := Aside0.mk H
                clear H
                have p363 : 0 ≤ (x51_3 : Int) := of_decide_eq_true (by first | (with_reducible assumption) | assumption)
                have q363 : x51_3 < (((rd_T27 l0_2 x22_1).f1).length : Int) := of_decide_eq_true (by first | (with_reducible assumption) | assumption)
                obtain ⟨ad363, e363, hx363_0⟩ := Kd.at_int (Kd.V_reads' HO_49.out).2.2 x51_3 p363 q363
                cases e363
                replace p363 := eq_true p363
                replace q363 := eq_true q363
                have hnb61 := NB355_347.out
                have hnc61 := NB347_355.out
                have hnb62 := NB355_348.out
                have hnc62 := NB348_355.out
                have hnb63 := NB355_358.out
                have hnc63 := NB358_355.out
                have hcz64_0 := bC0 BK355
                have hcz64_1 := bC1 BK355
                have hcz64_2 := bC2 BK355
                have hfz64_0 := blk_frozen BK355.out 0
                have hfz64_1 := blk_frozen BK355.out 1
                have hfz64_2 := blk_frozen BK355.out 2
                obtain ⟨Ao65, co65, eo65⟩ := Kd.R_slice HO_356001.out
                subst eo65
                go_wp2_with (first | ((with_reducible refine gate_callee (f := 49) rfl ?_); refine goesA_ (some 58) rfl rfl Try.func49 rfl #[.slice Ao65 x356001_3.length co65, .int .i64 (rd ((rd_T27 l0_2 x22_1).f1) x51_3)] rfl ?_; (with_reducible refine (trustquorumref04_has.calls k3 _ _ x356001_3 (rd ((rd_T27 l0_2 x22_1).f1) x51_3) true _ ?side1 ?side2 A59.out).mono ?_); (case side1 => exact Kd.uC ((Kd.R_reads' HO_356001.out).2.2)); (case side2 => exact (Kd.R_reads' HO_356001.out).2.1); rintro e w' ⟨rfl, ⟨nd, rfl⟩⟩; refine ⟨_, rfl, ?_⟩))
                go_roundg k3
                case measure => have := HK1.out; have := HJ22.out; have := HK3.out; omega
                case rel => exact ⟨(wrap64 (x51_3 + 1)), (x356001_3), (.slice Ao65 x356001_3.length co65), (by first | rfl | (simp; done) | (simp [*]; done)), H', ⟨by have := HK1.out; have := HJ22.out; have := HK3.out; omega⟩, ⟨Kd.uV HO_20⟩, ⟨Kd.uV HO_49⟩, ⟨Kd.uV HO_348002⟩, ⟨Kd.uR HO_356001⟩, ⟨Kd.uV HO_356002⟩, ⟨Kd.uV HO_359001⟩, ⟨Kd.uV HO_359002⟩, ⟨bU BK347⟩, ⟨bU BK348⟩, ⟨bU BK355⟩, ⟨bU BK358⟩, ⟨bB HB⟩⟩
               ·replace c60 := Bool.eq_false_iff.mpr c60
                subst c60
                have H1 : (if x356001_3.length < 17592186044416 then (trustquorumref04_merged.l1 k3 a1 l0_2 (l0_2.length : Int) x22_1 ((rd_T27 l0_2 x22_1).f1) (((rd_T27 l0_2 x22_1).f1).length : Int) (wrap64 (x51_3 + 1)) a0_0 (x356001_3 ++ [rd ((rd_T27 l0_2 x22_1).f1) x51_3]) x356002_1 ((rd_T27 l0_2 x22_1).f0) ((rd_T27 l0_2 x22_1).f1) ((rd_T27 l0_2 x22_1).f2)) else (none)) = some (r1, r2, r3) := by rw [if_neg (show ¬ (false = true) by decide)] at H; exact H
                clear H
                have H := H1
                clear H1
                by_cases c66 : x356001_3.length < 17592186044416
                ·rw [if_pos c66] at H
                 have LMc66 := Aside0.mk c66
                 clear c66
                 obtain ⟨y365, hy365⟩ : ∃ y_ : List Int, y_ = (x356001_3 ++ [rd ((rd_T27 l0_2 x22_1).f1) x51_3]) := ⟨_, rfl⟩
                 replace H : (trustquorumref04_merged.l1 k3 a1 l0_2 (l0_2.length : Int) x22_1 ((rd_T27 l0_2 x22_1).f1) (((rd_T27 l0_2 x22_1).f1).length : Int) (wrap64 (x51_3 + 1)) a0_0 y365 x356002_1 ((rd_T27 l0_2 x22_1).f0) ((rd_T27 l0_2 x22_1).f1) ((rd_T27 l0_2 x22_1).f2)) = some (r1, r2, r3) := by first | (rw [hy365]; with_reducible exact H) | (have H2_ := (Option.bind_some _ _).symm.trans H; rw [hy365]; with_reducible exact H2_) | (have H2_ := (Option.bind_some _ _).symm.trans H; with_reducible exact H2_) | with_reducible exact H | (rw [hy365]; exact H) | exact H
                 have Ny365 := Aside0.mk hy365
                 clear hy365
                 have H' := Aside0.mk H
                 clear H
                 have p363 : 0 ≤ (x51_3 : Int) := of_decide_eq_true (by first | (with_reducible assumption) | assumption)
                 have q363 : x51_3 < (((rd_T27 l0_2 x22_1).f1).length : Int) := of_decide_eq_true (by first | (with_reducible assumption) | assumption)
                 obtain ⟨ad363, e363, hx363_0⟩ := Kd.at_int (Kd.V_reads' HO_49.out).2.2 x51_3 p363 q363
                 cases e363
                 replace p363 := eq_true p363
                 replace q363 := eq_true q363
                 have hnb67 := NB355_347.out
                 have hnc67 := NB347_355.out
                 have hnb68 := NB355_348.out
                 have hnc68 := NB348_355.out
                 have hnb69 := NB355_358.out
                 have hnc69 := NB358_355.out
                 have hcz70_0 := bC0 BK355
                 have hcz70_1 := bC1 BK355
                 have hcz70_2 := bC2 BK355
                 have hfz70_0 := blk_frozen BK355.out 0
                 have hfz70_1 := blk_frozen BK355.out 1
                 have hfz70_2 := blk_frozen BK355.out 2
                 obtain ⟨Ao71, co71, eo71⟩ := Kd.R_slice HO_356001.out
                 subst eo71
                 go_wp2_with (first | ((with_reducible refine gate_callee (f := 49) rfl ?_); refine goesA_ (some 58) rfl rfl Try.func49 rfl #[.slice Ao71 x356001_3.length co71, .int .i64 (rd ((rd_T27 l0_2 x22_1).f1) x51_3)] rfl ?_; (with_reducible refine (trustquorumref04_has.calls k3 _ _ x356001_3 (rd ((rd_T27 l0_2 x22_1).f1) x51_3) false _ ?side1 ?side2 A59.out).mono ?_); (case side1 => exact Kd.uC ((Kd.R_reads' HO_356001.out).2.2)); (case side2 => exact (Kd.R_reads' HO_356001.out).2.1); rintro e w' ⟨rfl, ⟨nd, rfl⟩⟩; refine ⟨_, rfl, ?_⟩; (try (rw [drewN_self wr]; generalize hq_ : World.drewN wr _ = wr; have n0_ : Aside0 (Kd.V k27 27 wr w.heap.size (fun k_ => (P0_2_ k_ ∨ w.heap.size ≤ k_) ∧ some k_ ≠ (.slice Ao71 x356001_3.length co71 : Value).ownBlock ∧ k_ ≠ gb347 ∧ k_ ≠ gb348 ∧ k_ ≠ gb355 ∧ k_ ≠ gb358) (.slice (some ad357) l0_2.length c0_2) l0_2) := ⟨by rw [← hq_]; exact (Kd.uV HO_20)⟩; have n1_ : Aside0 (Kd.V k27 27 wr w.heap.size (fun k_ => (P0_2_ k_ ∨ w.heap.size ≤ k_) ∧ some k_ ≠ (.slice Ao71 x356001_3.length co71 : Value).ownBlock ∧ k_ ≠ gb347 ∧ k_ ≠ gb348 ∧ k_ ≠ gb355 ∧ k_ ≠ gb358) (.slice (some ad357) l0_2.length c0_2) l0_2) := ⟨by rw [← hq_]; exact (Kd.uV HO_348002)⟩; have n2_ : Aside0 (Kd.R (Kd.int .i64) 3 wr w.heap.size (fun k_ => (w.heap.size ≤ k_)) (.slice Ao71 x356001_3.length co71) x356001_3) := ⟨by rw [← hq_]; exact (Kd.uR HO_356001)⟩; have n3_ : Aside0 (Kd.V k27 27 wr w.heap.size (fun k_ => (P0_2_ k_ ∨ w.heap.size ≤ k_) ∧ some k_ ≠ (.slice Ao71 x356001_3.length co71 : Value).ownBlock ∧ k_ ≠ gb347 ∧ k_ ≠ gb348 ∧ k_ ≠ gb355 ∧ k_ ≠ gb358) u356002 x356002_1) := ⟨by rw [← hq_]; exact (Kd.uV HO_356002)⟩; have n4_ : Aside0 (Kd.V (Kd.int .i64) 3 wr w.heap.size (fun k_ => (P0_2_ k_ ∨ w.heap.size ≤ k_) ∧ some k_ ≠ (.slice Ao71 x356001_3.length co71 : Value).ownBlock ∧ k_ ≠ gb347 ∧ k_ ≠ gb348 ∧ k_ ≠ gb355 ∧ k_ ≠ gb358) (.slice (some ad363) ((rd_T27 l0_2 x22_1).f1).length c357_1) ((rd_T27 l0_2 x22_1).f1)) := ⟨by rw [← hq_]; exact (Kd.uV HO_359001)⟩; have n5_ : Aside0 (Kd.V k27 27 wr w.heap.size (fun k_ => (P0_2_ k_ ∨ w.heap.size ≤ k_) ∧ some k_ ≠ (.slice Ao71 x356001_3.length co71 : Value).ownBlock ∧ k_ ≠ gb347 ∧ k_ ≠ gb348 ∧ k_ ≠ gb355 ∧ k_ ≠ gb358) (.slice A357_2 ((rd_T27 l0_2 x22_1).f2).length c357_2) ((rd_T27 l0_2 x22_1).f2)) := ⟨by rw [← hq_]; exact (Kd.uV HO_359002)⟩; have n6_ : Aside0 (Kd.V (Kd.int .i64) 3 wr w.heap.size (fun k_ => (P0_2_ k_ ∨ w.heap.size ≤ k_) ∧ some k_ ≠ (.slice Ao71 x356001_3.length co71 : Value).ownBlock ∧ k_ ≠ gb347 ∧ k_ ≠ gb348 ∧ k_ ≠ gb355 ∧ k_ ≠ gb358) (.slice (some ad363) ((rd_T27 l0_2 x22_1).f1).length c357_1) ((rd_T27 l0_2 x22_1).f1)) := ⟨by rw [← hq_]; exact (Kd.uV HO_49)⟩; have n7_ : Aside0 (wr.heap[gb347]? = some (.cells #[.int .i64 a0_0, .slice A0_1 l0_1.length c0_1, .slice (some ad357) l0_2.length c0_2] 27 (0, 0))) := ⟨by rw [← hq_]; exact (bU BK347)⟩; have n8_ : Aside0 (wr.heap[gb348]? = some (.cells #[.int .i64 0, .slice none 0 0, .slice none 0 0] 27 (0, 0))) := ⟨by rw [← hq_]; exact (bU BK348)⟩; have n9_ : Aside0 (wr.heap[gb355]? = some (.cells #[.int .i64 a0_0, .slice Ao71 x356001_3.length co71, u356002] 27 (0, 0))) := ⟨by rw [← hq_]; exact (bU BK355)⟩; have n10_ : Aside0 (wr.heap[gb358]? = some (.cells #[.int .i64 ((rd_T27 l0_2 x22_1).f0), .slice (some ad363) ((rd_T27 l0_2 x22_1).f1).length c357_1, .slice A357_2 ((rd_T27 l0_2 x22_1).f2).length c357_2] 27 (0, 0))) := ⟨by rw [← hq_]; exact (bU BK358)⟩; have n11_ : Aside0 (Below w.heap.size w wr) := ⟨by rw [← hq_]; exact (bB HB)⟩; clear HO_20 HO_348002 HO_356001 HO_356002 HO_359001 HO_359002 HO_49 BK347 BK348 BK355 BK358 HB hq_; have HO_20 := n0_; have HO_348002 := n1_; have HO_356001 := n2_; have HO_356002 := n3_; have HO_359001 := n4_; have HO_359002 := n5_; have HO_49 := n6_; have BK347 := n7_; have BK348 := n8_; have BK355 := n9_; have BK358 := n10_; have HB := n11_; clear n0_ n1_ n2_ n3_ n4_ n5_ n6_ n7_ n8_ n9_ n10_ n11_; (try have hqz347_0 := bC0 BK347); (try have hqz347_1 := bC1 BK347); (try have hqz347_2 := bC2 BK347); (try have hqz348_0 := bC0 BK348); (try have hqz348_1 := bC1 BK348); (try have hqz348_2 := bC2 BK348); (try have hqz355_0 := bC0 BK355); (try have hqz355_1 := bC1 BK355); (try have hqz355_2 := bC2 BK355); (try have hqz358_0 := bC0 BK358); (try have hqz358_1 := bC1 BK358); (try have hqz358_2 := bC2 BK358); (try have hqf347_0 := blk_frozen BK347.out 0); (try have hqf347_1 := blk_frozen BK347.out 1); (try have hqf347_2 := blk_frozen BK347.out 2); (try have hqf348_0 := blk_frozen BK348.out 0); (try have hqf348_1 := blk_frozen BK348.out 1); (try have hqf348_2 := blk_frozen BK348.out 2); (try have hqf355_0 := blk_frozen BK355.out 0); (try have hqf355_1 := blk_frozen BK355.out 1); (try have hqf355_2 := blk_frozen BK355.out 2); (try have hqf358_0 := blk_frozen BK358.out 0); (try have hqf358_1 := blk_frozen BK358.out 1); (try have hqf358_2 := blk_frozen BK358.out 2)))) | ((with_reducible refine gate_builtin (b := .append) (xs := #[.tmp 61, .tmp 63]) rfl ?_); at_builtin; refine Kd.R_append (Kd.int .i64) (w0 := w) w.heap.size rfl (.tmp 61) (.tmp 63) 22 3 (.int .i64 0) 8 rfl Try.underlying22 info3 rfl (by decide) (by omega) (.slice Ao71 x356001_3.length co71) x356001_3 (rd ((rd_T27 l0_2 x22_1).f1) x51_3) [.int .i64 (rd ((rd_T27 l0_2 x22_1).f1) x51_3)] (fun k_ => (w.heap.size ≤ k_)) (fun _ => False) rfl rfl ?aP (fun _ hk => hk.elim) ?aF ?aO ?aB ?aS ?aL ?_; (case aP => exact rfl); (case aB => exact (bB HB)); (case aF => exact (fun k_ hk => (Nat.le_trans (below_size (bB HB)) hk))); (case aO => exact (Kd.uR HO_356001)); (case aS => exact (below_size (bB HB))); (case aL => have := LMc66.out; omega); intro v366 w72 ho hb hg hat; rw [← Ny365.out] at ho; replace HO_20 := Aside0.mk (Kd.V_afterv (ok := (fun k_ => (P0_2_ k_ ∨ w.heap.size ≤ k_) ∧ k_ ≠ gb347 ∧ k_ ≠ gb348 ∧ k_ ≠ gb355 ∧ k_ ≠ gb358)) (by (with_reducible repeat (first | apply Kd.V_alloc | apply Kd.V_drewN | apply Kd.V_drew)); exact Kd.V_mono HO_20.out (fun _ hk => ⟨⟨hk.1, ⟨hk.2.2.1, ⟨hk.2.2.2.1, ⟨hk.2.2.2.2.1, hk.2.2.2.2.2⟩⟩⟩⟩, hk.2.1⟩)) hg hat); replace HO_49 := Aside0.mk (Kd.V_afterv (ok := (fun k_ => (P0_2_ k_ ∨ w.heap.size ≤ k_) ∧ k_ ≠ gb347 ∧ k_ ≠ gb348 ∧ k_ ≠ gb355 ∧ k_ ≠ gb358)) (by (with_reducible repeat (first | apply Kd.V_alloc | apply Kd.V_drewN | apply Kd.V_drew)); exact Kd.V_mono HO_49.out (fun _ hk => ⟨⟨hk.1, ⟨hk.2.2.1, ⟨hk.2.2.2.1, ⟨hk.2.2.2.2.1, hk.2.2.2.2.2⟩⟩⟩⟩, hk.2.1⟩)) hg hat); replace HO_348002 := Aside0.mk (Kd.V_afterv (ok := (fun k_ => (P0_2_ k_ ∨ w.heap.size ≤ k_) ∧ k_ ≠ gb347 ∧ k_ ≠ gb348 ∧ k_ ≠ gb355 ∧ k_ ≠ gb358)) (by (with_reducible repeat (first | apply Kd.V_alloc | apply Kd.V_drewN | apply Kd.V_drew)); exact Kd.V_mono HO_348002.out (fun _ hk => ⟨⟨hk.1, ⟨hk.2.2.1, ⟨hk.2.2.2.1, ⟨hk.2.2.2.2.1, hk.2.2.2.2.2⟩⟩⟩⟩, hk.2.1⟩)) hg hat); replace HO_356002 := Aside0.mk (Kd.V_afterv (ok := (fun k_ => (P0_2_ k_ ∨ w.heap.size ≤ k_) ∧ k_ ≠ gb347 ∧ k_ ≠ gb348 ∧ k_ ≠ gb355 ∧ k_ ≠ gb358)) (by (with_reducible repeat (first | apply Kd.V_alloc | apply Kd.V_drewN | apply Kd.V_drew)); exact Kd.V_mono HO_356002.out (fun _ hk => ⟨⟨hk.1, ⟨hk.2.2.1, ⟨hk.2.2.2.1, ⟨hk.2.2.2.2.1, hk.2.2.2.2.2⟩⟩⟩⟩, hk.2.1⟩)) hg hat); replace HO_359001 := Aside0.mk (Kd.V_afterv (ok := (fun k_ => (P0_2_ k_ ∨ w.heap.size ≤ k_) ∧ k_ ≠ gb347 ∧ k_ ≠ gb348 ∧ k_ ≠ gb355 ∧ k_ ≠ gb358)) (by (with_reducible repeat (first | apply Kd.V_alloc | apply Kd.V_drewN | apply Kd.V_drew)); exact Kd.V_mono HO_359001.out (fun _ hk => ⟨⟨hk.1, ⟨hk.2.2.1, ⟨hk.2.2.2.1, ⟨hk.2.2.2.2.1, hk.2.2.2.2.2⟩⟩⟩⟩, hk.2.1⟩)) hg hat); replace HO_359002 := Aside0.mk (Kd.V_afterv (ok := (fun k_ => (P0_2_ k_ ∨ w.heap.size ≤ k_) ∧ k_ ≠ gb347 ∧ k_ ≠ gb348 ∧ k_ ≠ gb355 ∧ k_ ≠ gb358)) (by (with_reducible repeat (first | apply Kd.V_alloc | apply Kd.V_drewN | apply Kd.V_drew)); exact Kd.V_mono HO_359002.out (fun _ hk => ⟨⟨hk.1, ⟨hk.2.2.1, ⟨hk.2.2.2.1, ⟨hk.2.2.2.2.1, hk.2.2.2.2.2⟩⟩⟩⟩, hk.2.1⟩)) hg hat); replace BK347 := Aside0.mk (blk_grown (bU BK347) hg (Kd.R_ne HO_356001.out BK347.out (by decide))); replace BK348 := Aside0.mk (blk_grown (bU BK348) hg (Kd.R_ne HO_356001.out BK348.out (by decide))); replace BK355 := Aside0.mk (blk_grown (bU BK355) hg (Kd.R_ne HO_356001.out BK355.out (by decide))); replace BK358 := Aside0.mk (blk_grown (bU BK358) hg (Kd.R_ne HO_356001.out BK358.out (by decide))); replace HB := Aside0.mk (hb); have HO367 := Aside0.mk (ho); clear HO_356001; clear ho hb hg hat; obtain ⟨Ao73, co73, eo73⟩ := Kd.R_slice HO367.out; subst eo73; have hcz74_0 := bC0 BK355; have hcz74_1 := bC1 BK355; have hcz74_2 := bC2 BK355; have hfz74_0 := blk_frozen BK355.out 0; have hfz74_1 := blk_frozen BK355.out 1; have hfz74_2 := blk_frozen BK355.out 2))
                 go_roundg k3
                 case measure => have := HK1.out; have := HJ22.out; have := HK3.out; omega
                 case rel => exact ⟨(wrap64 (x51_3 + 1)), (y365), (.slice Ao73 y365.length co73), (by first | rfl | (simp; done) | (simp [*]; done)), H', ⟨by have := HK1.out; have := HJ22.out; have := HK3.out; omega⟩, ⟨by (with_reducible repeat (first | apply Kd.V_alloc | apply Kd.V_drewN | apply Kd.V_drew)); exact Kd.V_mono (Kd.V_fw1 HO_20.out (fun _ hk => hk.1.2.2.2.1)) (fun _ hk => ⟨hk.1.1, ⟨hk.2, ⟨hk.1.2.1, ⟨hk.1.2.2.1, ⟨hk.1.2.2.2.1, hk.1.2.2.2.2⟩⟩⟩⟩⟩)⟩, ⟨by (with_reducible repeat (first | apply Kd.V_alloc | apply Kd.V_drewN | apply Kd.V_drew)); exact Kd.V_mono (Kd.V_fw1 HO_49.out (fun _ hk => hk.1.2.2.2.1)) (fun _ hk => ⟨hk.1.1, ⟨hk.2, ⟨hk.1.2.1, ⟨hk.1.2.2.1, ⟨hk.1.2.2.2.1, hk.1.2.2.2.2⟩⟩⟩⟩⟩)⟩, ⟨by (with_reducible repeat (first | apply Kd.V_alloc | apply Kd.V_drewN | apply Kd.V_drew)); exact Kd.V_mono (Kd.V_fw1 HO_348002.out (fun _ hk => hk.1.2.2.2.1)) (fun _ hk => ⟨hk.1.1, ⟨hk.2, ⟨hk.1.2.1, ⟨hk.1.2.2.1, ⟨hk.1.2.2.2.1, hk.1.2.2.2.2⟩⟩⟩⟩⟩)⟩, ⟨by (with_reducible repeat (first | apply Kd.R_alloc | apply Kd.R_drewN | apply Kd.R_drew)); exact Kd.R_ft1 (Kd.R_types HO367.out BK355.out (by decide))⟩, ⟨by (with_reducible repeat (first | apply Kd.V_alloc | apply Kd.V_drewN | apply Kd.V_drew)); exact Kd.V_mono (Kd.V_fw1 HO_356002.out (fun _ hk => hk.1.2.2.2.1)) (fun _ hk => ⟨hk.1.1, ⟨hk.2, ⟨hk.1.2.1, ⟨hk.1.2.2.1, ⟨hk.1.2.2.2.1, hk.1.2.2.2.2⟩⟩⟩⟩⟩)⟩, ⟨by (with_reducible repeat (first | apply Kd.V_alloc | apply Kd.V_drewN | apply Kd.V_drew)); exact Kd.V_mono (Kd.V_fw1 HO_359001.out (fun _ hk => hk.1.2.2.2.1)) (fun _ hk => ⟨hk.1.1, ⟨hk.2, ⟨hk.1.2.1, ⟨hk.1.2.2.1, ⟨hk.1.2.2.2.1, hk.1.2.2.2.2⟩⟩⟩⟩⟩)⟩, ⟨by (with_reducible repeat (first | apply Kd.V_alloc | apply Kd.V_drewN | apply Kd.V_drew)); exact Kd.V_mono (Kd.V_fw1 HO_359002.out (fun _ hk => hk.1.2.2.2.1)) (fun _ hk => ⟨hk.1.1, ⟨hk.2, ⟨hk.1.2.1, ⟨hk.1.2.2.1, ⟨hk.1.2.2.2.1, hk.1.2.2.2.2⟩⟩⟩⟩⟩)⟩, ⟨bF BK347⟩, ⟨bF BK348⟩, ⟨by (with_reducible repeat (first | refine blk_drewN ?_ _ | refine blk_drew ?_ | refine blk_alloc ?_ _)); refine blk_put (cs := #[.int .i64 a0_0, .slice Ao71 x356001_3.length co71, u356002]) ?_ 1 _ rfl; (with_reducible repeat (first | refine blk_drewN ?_ _ | refine blk_drew ?_ | refine blk_alloc ?_ _)); exact BK355.out⟩, ⟨bF BK358⟩, ⟨bB HB⟩⟩
                ·rw [if_neg c66] at H
                 exact absurd H (by simp)
              ·rw [if_neg c58] at H
               exact absurd H (by simp)
             ·rw [if_neg c57] at H
              exact absurd H (by simp)
            ·rw [if_neg c56] at H
             have c56b0 : decide (x51_3 < (((rd_T27 l0_2 x22_1).f1).length : Int)) = false := decide_eq_false c56
             clear c56
             have H' := Aside0.mk H
             clear H
             have hnb75 := NB358_347.out
             have hnc75 := NB347_358.out
             have hnb76 := NB358_348.out
             have hnc76 := NB348_358.out
             have hnb77 := NB358_355.out
             have hnc77 := NB355_358.out
             have hcz78_0 := bC0 BK358
             have hcz78_1 := bC1 BK358
             have hcz78_2 := bC2 BK358
             have hfz78_0 := blk_frozen BK358.out 0
             have hfz78_1 := blk_frozen BK358.out 1
             have hfz78_2 := blk_frozen BK358.out 2
             go_wp2
             go_loopg [70] k3 (fun kq v70 w' => ∃ (x70_4 : Int) (x356002_4 : List (S27)) (u356002 : Value), v70 = .int .i64 x70_4 ∧ Aside0 (trustquorumref04_merged.l2 kq a1 l0_2 (l0_2.length : Int) x22_1 ((rd_T27 l0_2 x22_1).f2) (((rd_T27 l0_2 x22_1).f2).length : Int) x70_4 a0_0 x356001_3 x356002_4 = some (r1, r2, r3)) ∧ Aside0 (kq ≤ k3) ∧ Aside0 (Kd.V k27 27 w' w.heap.size (fun k_ => (P0_2_ k_ ∨ w.heap.size ≤ k_) ∧ some k_ ≠ (u356001 : Value).ownBlock ∧ k_ ≠ gb347 ∧ k_ ≠ gb348 ∧ k_ ≠ gb355 ∧ k_ ≠ gb358) (.slice (some ad357) l0_2.length c0_2) l0_2) ∧ Aside0 (Kd.V k27 27 w' w.heap.size (fun k_ => (P0_2_ k_ ∨ w.heap.size ≤ k_) ∧ some k_ ≠ (u356001 : Value).ownBlock ∧ k_ ≠ gb347 ∧ k_ ≠ gb348 ∧ k_ ≠ gb355 ∧ k_ ≠ gb358) (.slice A357_2 ((rd_T27 l0_2 x22_1).f2).length c357_2) ((rd_T27 l0_2 x22_1).f2)) ∧ Aside0 (Kd.V k27 27 w' w.heap.size (fun k_ => (P0_2_ k_ ∨ w.heap.size ≤ k_) ∧ some k_ ≠ (u356001 : Value).ownBlock ∧ k_ ≠ gb347 ∧ k_ ≠ gb348 ∧ k_ ≠ gb355 ∧ k_ ≠ gb358) (.slice (some ad357) l0_2.length c0_2) l0_2) ∧ Aside0 (Kd.R (Kd.int .i64) 3 w' w.heap.size (fun k_ => (w.heap.size ≤ k_)) u356001 x356001_3) ∧ Aside0 (Kd.V k27 27 w' w.heap.size (fun k_ => (P0_2_ k_ ∨ w.heap.size ≤ k_) ∧ some k_ ≠ (u356001 : Value).ownBlock ∧ k_ ≠ gb347 ∧ k_ ≠ gb348 ∧ k_ ≠ gb355 ∧ k_ ≠ gb358) u356002 x356002_4) ∧ Aside0 (Kd.V (Kd.int .i64) 3 w' w.heap.size (fun k_ => (P0_2_ k_ ∨ w.heap.size ≤ k_) ∧ some k_ ≠ (u356001 : Value).ownBlock ∧ k_ ≠ gb347 ∧ k_ ≠ gb348 ∧ k_ ≠ gb355 ∧ k_ ≠ gb358) (.slice A357_1 ((rd_T27 l0_2 x22_1).f1).length c357_1) ((rd_T27 l0_2 x22_1).f1)) ∧ Aside0 (Kd.V k27 27 w' w.heap.size (fun k_ => (P0_2_ k_ ∨ w.heap.size ≤ k_) ∧ some k_ ≠ (u356001 : Value).ownBlock ∧ k_ ≠ gb347 ∧ k_ ≠ gb348 ∧ k_ ≠ gb355 ∧ k_ ≠ gb358) (.slice A357_2 ((rd_T27 l0_2 x22_1).f2).length c357_2) ((rd_T27 l0_2 x22_1).f2)) ∧ Aside0 (w'.heap[gb347]? = some (.cells #[.int .i64 a0_0, (.slice A0_1 l0_1.length c0_1), (.slice (some ad357) l0_2.length c0_2)] 27 (0, 0))) ∧ Aside0 (w'.heap[gb348]? = some (.cells #[.int .i64 0, (.slice none 0 0), (.slice none 0 0)] 27 (0, 0))) ∧ Aside0 (w'.heap[gb355]? = some (.cells #[.int .i64 a0_0, u356001, u356002] 27 (0, 0))) ∧ Aside0 (w'.heap[gb358]? = some (.cells #[.int .i64 ((rd_T27 l0_2 x22_1).f0), (.slice A357_1 ((rd_T27 l0_2 x22_1).f1).length c357_1), (.slice A357_2 ((rd_T27 l0_2 x22_1).f2).length c357_2)] 27 (0, 0))) ∧ Aside0 (Below w.heap.size w w'))
             case atStart => exact ⟨(0), (x356002_1), (u356002), (by first | rfl | (simp; done) | (simp [*]; done)), H', ⟨Nat.le_refl _⟩, ⟨Kd.uV HO_20⟩, ⟨Kd.uV HO_359002⟩, ⟨Kd.uV HO_348002⟩, ⟨Kd.uR HO_356001⟩, ⟨Kd.uV HO_356002⟩, ⟨Kd.uV HO_359001⟩, ⟨Kd.uV HO_359002⟩, ⟨bU BK347⟩, ⟨bU BK348⟩, ⟨bU BK355⟩, ⟨bU BK358⟩, ⟨bB HB⟩⟩
             case round =>
              clear H'
              try clear c2
              try clear p2
              try clear c3
              try clear p3
              try clear q3
              try clear hx3
              try clear c4
              try clear c5
              try clear c6
              try clear p6
              try clear c7
              try clear c29
              try clear c34
              try clear c34b0
              try clear c34b1
              try clear c35
              try clear p36
              try clear q36
              try clear hx36
              try clear c39
              try clear c41
              try clear c42
              try clear c43
              try clear c45
              try clear c46
              try clear c49
              try clear c51
              try clear c52
              try clear c53
              try clear c54
              try clear c56
              try clear c56b0
              try clear c57
              try clear c57b0
              try clear c58
              try clear c58b0
              try clear c60
              try clear c61
              try clear c62
              try clear c63
              try clear p64
              try clear c66
              try clear c67
              try clear c68
              try clear c69
              try clear c75
              try clear c76
              try clear c77
              try clear hcz44_0
              try clear hcz44_1
              try clear hcz44_2
              try clear hcz47_0
              try clear hcz47_1
              try clear hcz47_2
              try clear hcz51_0
              try clear hcz51_1
              try clear hcz51_2
              try clear hcz55_0
              try clear hcz55_1
              try clear hcz55_2
              try clear hcz64_0
              try clear hcz64_1
              try clear hcz64_2
              try clear hcz70_0
              try clear hcz70_1
              try clear hcz70_2
              try clear hcz74_0
              try clear hcz74_1
              try clear hcz74_2
              try clear hcz78_0
              try clear hcz78_1
              try clear hcz78_2
              try clear hfz44_0
              try clear hfz44_1
              try clear hfz44_2
              try clear hfz47_0
              try clear hfz47_1
              try clear hfz47_2
              try clear hfz51_0
              try clear hfz51_1
              try clear hfz51_2
              try clear hfz55_0
              try clear hfz55_1
              try clear hfz55_2
              try clear hfz64_0
              try clear hfz64_1
              try clear hfz64_2
              try clear hfz70_0
              try clear hfz70_1
              try clear hfz70_2
              try clear hfz74_0
              try clear hfz74_1
              try clear hfz74_2
              try clear hfz78_0
              try clear hfz78_1
              try clear hfz78_2
              try clear hx363_0
              try clear p2
              try clear p363
              try clear p6
              try clear q363
              obtain ⟨x70_4, x356002_4, u356002, rfl, HA, HK4, HO_20, HO_68, HO_348002, HO_356001, HO_356002, HO_359001, HO_359002, BK347, BK348, BK355, BK358, HB⟩ := hrel
              cases gk with
              | zero => exact absurd HA.out (by simp [trustquorumref04_merged.l2])
              | succ k4 =>
               have H := HA.out
               clear HA
               simp only [trustquorumref04_merged.l2] at H
               by_cases c79 : x70_4 < (((rd_T27 l0_2 x22_1).f2).length : Int)
               ·rw [if_pos c79] at H
                have c79b0 : decide (x70_4 < (((rd_T27 l0_2 x22_1).f2).length : Int)) = true := decide_eq_true c79
                clear c79
                by_cases c80 : 0 ≤ x70_4
                ·rw [if_pos c80] at H
                 have c80b0 : decide (0 ≤ x70_4) = true := decide_eq_true c80
                 clear c80
                 by_cases c81 : x70_4 < (((rd_T27 l0_2 x22_1).f2).length : Int)
                 ·rw [if_pos c81] at H
                  have c81b0 : decide (x70_4 < (((rd_T27 l0_2 x22_1).f2).length : Int)) = true := decide_eq_true c81
                  clear c81
                  replace H := Option.bind_eq_some_iff.mp H
                  obtain ⟨t370, A820, H⟩ := H
                  replace H : (trustquorumref04_merged.l2 k4 a1 l0_2 (l0_2.length : Int) x22_1 ((rd_T27 l0_2 x22_1).f2) (((rd_T27 l0_2 x22_1).f2).length : Int) (wrap64 (x70_4 + 1)) a0_0 x356001_3 t370) = some (r1, r2, r3) := H
                  have A82 := Aside0.mk A820
                  clear A820
                  have H' := Aside0.mk H
                  clear H
                  have p368 : 0 ≤ (x70_4 : Int) := of_decide_eq_true (by first | (with_reducible assumption) | assumption)
                  have q368 : x70_4 < (((rd_T27 l0_2 x22_1).f2).length : Int) := of_decide_eq_true (by first | (with_reducible assumption) | assumption)
                  obtain ⟨ad368, A368_1, c368_1, A368_2, c368_2, e368, hx368_0, hx368_1, hx368_2, hl368_1, hi368_1, hl368_2, hi368_2⟩ := at_T27 (Kd.V_reads' HO_68.out).2.2 x70_4 p368 q368
                  cases e368
                  obtain ⟨ce368, hce368, hMe368, hcc368⟩ := Kd.V_get HO_68.out z27 x70_4 p368 (by first | exact q368 | exact of_decide_eq_true (by first | (with_reducible assumption) | assumption) | (have e_ := (Kd.V_reads' HO_68.out).1; omega))
                  obtain ⟨ua368_1, uc368_1, ua368_2, uc368_2, rfl, ul368_1, ge368_1, ul368_2, ge368_2⟩ := k27_openF hMe368
                  have hv368_1 := hcc368 1 _ rfl
                  rw [add_field _ _ 1 (by omega)] at hv368_1
                  replace hv368_1 := Option.some.inj (hv368_1.symm.trans hx368_1)
                  injection hv368_1 with hva_ hvn_ hvc_
                  rw [hva_] at ge368_1
                  rw [hvc_] at ul368_1
                  have HL368_1 := Aside0.mk (show Kd.V (Kd.int .i64) 3 _ w.heap.size _ _ ((rd_T27 ((rd_T27 l0_2 x22_1).f2) x70_4).f1) from Kd.V_mk ul368_1 ge368_1)
                  clear hva_ hvn_ hvc_ ge368_1 ul368_1
                  have hv368_2 := hcc368 2 _ rfl
                  rw [add_field _ _ 2 (by omega)] at hv368_2
                  replace hv368_2 := Option.some.inj (hv368_2.symm.trans hx368_2)
                  injection hv368_2 with hva_ hvn_ hvc_
                  rw [hva_] at ge368_2
                  rw [hvc_] at ul368_2
                  have HL368_2 := Aside0.mk (show Kd.V k27 27 _ w.heap.size _ _ ((rd_T27 ((rd_T27 l0_2 x22_1).f2) x70_4).f2) from Kd.V_mk ul368_2 ge368_2)
                  clear hva_ hvn_ hvc_ ge368_2 ul368_2
                  clear hcc368 hce368
                  have HR368_1 := Aside0.mk hi368_1
                  have HC368_1 := Aside0.mk hl368_1
                  clear hi368_1 hl368_1
                  have HR368_2 := Aside0.mk hi368_2
                  have HC368_2 := Aside0.mk hl368_2
                  clear hi368_2 hl368_2
                  replace p368 := eq_true p368
                  replace q368 := eq_true q368
                  go_wp2_with (first | ((with_reducible refine gate_dst (N := 11) rfl ?_); refine box_event ?hg (N := 11) ?hd (cs := #[.int .i64 0, .slice none 0 0, .slice none 0 0]) (t := 27) ?hr ?_; (case hd => rfl); (case hg => rfl); (case hr => first | (go_simp; done) | (go_simp; rfl)); intro gb369 hg w83 hbox hb; replace HO_20 := Aside0.mk (Kd.V_below (Kd.V_elderB (Kd.uV HO_20) gb369 (Nat.le_of_eq hg.symm)) hb); replace HO_68 := Aside0.mk (Kd.V_below (Kd.V_elderB (Kd.uV HO_68) gb369 (Nat.le_of_eq hg.symm)) hb); replace HO_348002 := Aside0.mk (Kd.V_below (Kd.V_elderB (Kd.uV HO_348002) gb369 (Nat.le_of_eq hg.symm)) hb); replace HO_356001 := Kd.bR HO_356001 hb; replace HO_356002 := Aside0.mk (Kd.V_below (Kd.V_elderB (Kd.uV HO_356002) gb369 (Nat.le_of_eq hg.symm)) hb); replace HO_359001 := Aside0.mk (Kd.V_below (Kd.V_elderB (Kd.uV HO_359001) gb369 (Nat.le_of_eq hg.symm)) hb); replace HO_359002 := Aside0.mk (Kd.V_below (Kd.V_elderB (Kd.uV HO_359002) gb369 (Nat.le_of_eq hg.symm)) hb); replace HL368_1 := Aside0.mk (Kd.V_below (Kd.V_elderB (Kd.uV HL368_1) gb369 (Nat.le_of_eq hg.symm)) hb); replace HL368_2 := Aside0.mk (Kd.V_below (Kd.V_elderB (Kd.uV HL368_2) gb369 (Nat.le_of_eq hg.symm)) hb); (try replace HR368_1 := Aside0.mk (Kd.C_below (by repeat (first | (with_reducible exact HR368_1.out) | (with_reducible refine Kd.C_alloc ?_ _) | (with_reducible refine Kd.C_drewN ?_ _) | (with_reducible refine Kd.C_drew ?_) | exact HR368_1.out)) hb)); (try replace HR368_2 := Aside0.mk (Kd.C_below (by repeat (first | (with_reducible exact HR368_2.out) | (with_reducible refine Kd.C_alloc ?_ _) | (with_reducible refine Kd.C_drewN ?_ _) | (with_reducible refine Kd.C_drew ?_) | exact HR368_2.out)) hb)); have BK369 := Aside0.mk (hbox); have GW369 := Aside0.mk ((by rw [hg]; exact (below_size (bB HB)) : w.heap.size ≤ gb369)); have GE369 := Aside0.mk ((by rw [hg]; exact (below_size (bB HB)) : w.heap.size ≤ gb369)); replace HB := bs HB hb; have NB347_369 := Aside0.mk ((by rw [hg]; exact Nat.ne_of_lt (blk_lt (bU BK347)) : gb347 ≠ gb369)); have NB369_347 := Aside0.mk ((by rw [hg]; exact Nat.ne_of_gt (blk_lt (bU BK347)) : gb369 ≠ gb347)); replace BK347 := bb BK347 hb; have NB348_369 := Aside0.mk ((by rw [hg]; exact Nat.ne_of_lt (blk_lt (bU BK348)) : gb348 ≠ gb369)); have NB369_348 := Aside0.mk ((by rw [hg]; exact Nat.ne_of_gt (blk_lt (bU BK348)) : gb369 ≠ gb348)); replace BK348 := bb BK348 hb; have NB355_369 := Aside0.mk ((by rw [hg]; exact Nat.ne_of_lt (blk_lt (bU BK355)) : gb355 ≠ gb369)); have NB369_355 := Aside0.mk ((by rw [hg]; exact Nat.ne_of_gt (blk_lt (bU BK355)) : gb369 ≠ gb355)); replace BK355 := bb BK355 hb; have NB358_369 := Aside0.mk ((by rw [hg]; exact Nat.ne_of_lt (blk_lt (bU BK358)) : gb358 ≠ gb369)); have NB369_358 := Aside0.mk ((by rw [hg]; exact Nat.ne_of_gt (blk_lt (bU BK358)) : gb369 ≠ gb358)); replace BK358 := bb BK358 hb; clear hb hbox hg; have hnb84 := NB369_347.out; have hnc84 := NB347_369.out; have hnb85 := NB369_348.out; have hnc85 := NB348_369.out; have hnb86 := NB369_355.out; have hnc86 := NB355_369.out; have hnb87 := NB369_358.out; have hnc87 := NB358_369.out; have hcz88_0 := bC0 BK369; have hcz88_1 := bC1 BK369; have hcz88_2 := bC2 BK369; have hfz88_0 := blk_frozen BK369.out 0; have hfz88_1 := blk_frozen BK369.out 1; have hfz88_2 := blk_frozen BK369.out 2) | ((with_reducible refine gate_store (t := 27) (p := 11) rfl ?_); refine store_event (t := 27) (p := 11) (v := ?vo_w89) (w1 := (((w83.setCell ⟨gb369, 0, none⟩ (.int .i64 ((rd_T27 ((rd_T27 l0_2 x22_1).f2) x70_4).f0))).setCell ⟨gb369, 1, none⟩ (.slice A368_1 ((rd_T27 ((rd_T27 l0_2 x22_1).f2) x70_4).f1).length c368_1)).setCell ⟨gb369, 2, none⟩ (.slice A368_2 ((rd_T27 ((rd_T27 l0_2 x22_1).f2) x70_4).f2).length c368_2))) ?hg ?ho ?hn ?hr ?_; (case ho => rfl); (case hg => rfl); (case hn => rfl); (case hr => first | (go_simp; done) | (go_simp; rfl)); intro w89 hw; replace HO_20 : Aside0 (Kd.V k27 27 w89 w.heap.size (fun k_ => (P0_2_ k_ ∨ w.heap.size ≤ k_) ∧ some k_ ≠ (u356001 : Value).ownBlock ∧ k_ ≠ gb347 ∧ k_ ≠ gb348 ∧ k_ ≠ gb355 ∧ k_ ≠ gb358 ∧ k_ ≠ gb369) (.slice (some ad357) l0_2.length c0_2) l0_2) := ⟨(by rw [hw]; exact (by (with_reducible repeat (first | apply Kd.V_alloc | apply Kd.V_drewN | apply Kd.V_drew)); exact Kd.V_mono (Kd.V_fw3 HO_20.out (fun _ hk => hk.2)) (fun _ hk => ⟨hk.1.1, ⟨hk.1.2.1, ⟨hk.1.2.2.1, ⟨hk.1.2.2.2.1, ⟨hk.1.2.2.2.2.1, ⟨hk.1.2.2.2.2.2, hk.2⟩⟩⟩⟩⟩⟩)))⟩; replace HO_68 : Aside0 (Kd.V k27 27 w89 w.heap.size (fun k_ => (P0_2_ k_ ∨ w.heap.size ≤ k_) ∧ some k_ ≠ (u356001 : Value).ownBlock ∧ k_ ≠ gb347 ∧ k_ ≠ gb348 ∧ k_ ≠ gb355 ∧ k_ ≠ gb358 ∧ k_ ≠ gb369) (.slice (some ad368) ((rd_T27 l0_2 x22_1).f2).length c357_2) ((rd_T27 l0_2 x22_1).f2)) := ⟨(by rw [hw]; exact (by (with_reducible repeat (first | apply Kd.V_alloc | apply Kd.V_drewN | apply Kd.V_drew)); exact Kd.V_mono (Kd.V_fw3 HO_68.out (fun _ hk => hk.2)) (fun _ hk => ⟨hk.1.1, ⟨hk.1.2.1, ⟨hk.1.2.2.1, ⟨hk.1.2.2.2.1, ⟨hk.1.2.2.2.2.1, ⟨hk.1.2.2.2.2.2, hk.2⟩⟩⟩⟩⟩⟩)))⟩; replace HO_348002 : Aside0 (Kd.V k27 27 w89 w.heap.size (fun k_ => (P0_2_ k_ ∨ w.heap.size ≤ k_) ∧ some k_ ≠ (u356001 : Value).ownBlock ∧ k_ ≠ gb347 ∧ k_ ≠ gb348 ∧ k_ ≠ gb355 ∧ k_ ≠ gb358 ∧ k_ ≠ gb369) (.slice (some ad357) l0_2.length c0_2) l0_2) := ⟨(by rw [hw]; exact (by (with_reducible repeat (first | apply Kd.V_alloc | apply Kd.V_drewN | apply Kd.V_drew)); exact Kd.V_mono (Kd.V_fw3 HO_348002.out (fun _ hk => hk.2)) (fun _ hk => ⟨hk.1.1, ⟨hk.1.2.1, ⟨hk.1.2.2.1, ⟨hk.1.2.2.2.1, ⟨hk.1.2.2.2.2.1, ⟨hk.1.2.2.2.2.2, hk.2⟩⟩⟩⟩⟩⟩)))⟩; replace HO_356001 : Aside0 (Kd.R (Kd.int .i64) 3 w89 w.heap.size (fun k_ => (w.heap.size ≤ k_)) u356001 x356001_3) := ⟨(by rw [hw]; exact (by (with_reducible repeat (first | apply Kd.R_alloc | apply Kd.R_drewN | apply Kd.R_drew)); exact Kd.R_ft3 (Kd.R_types HO_356001.out BK369.out (by decide))))⟩; replace HO_356002 : Aside0 (Kd.V k27 27 w89 w.heap.size (fun k_ => (P0_2_ k_ ∨ w.heap.size ≤ k_) ∧ some k_ ≠ (u356001 : Value).ownBlock ∧ k_ ≠ gb347 ∧ k_ ≠ gb348 ∧ k_ ≠ gb355 ∧ k_ ≠ gb358 ∧ k_ ≠ gb369) u356002 x356002_4) := ⟨(by rw [hw]; exact (by (with_reducible repeat (first | apply Kd.V_alloc | apply Kd.V_drewN | apply Kd.V_drew)); exact Kd.V_mono (Kd.V_fw3 HO_356002.out (fun _ hk => hk.2)) (fun _ hk => ⟨hk.1.1, ⟨hk.1.2.1, ⟨hk.1.2.2.1, ⟨hk.1.2.2.2.1, ⟨hk.1.2.2.2.2.1, ⟨hk.1.2.2.2.2.2, hk.2⟩⟩⟩⟩⟩⟩)))⟩; replace HO_359001 : Aside0 (Kd.V (Kd.int .i64) 3 w89 w.heap.size (fun k_ => (P0_2_ k_ ∨ w.heap.size ≤ k_) ∧ some k_ ≠ (u356001 : Value).ownBlock ∧ k_ ≠ gb347 ∧ k_ ≠ gb348 ∧ k_ ≠ gb355 ∧ k_ ≠ gb358 ∧ k_ ≠ gb369) (.slice A357_1 ((rd_T27 l0_2 x22_1).f1).length c357_1) ((rd_T27 l0_2 x22_1).f1)) := ⟨(by rw [hw]; exact (by (with_reducible repeat (first | apply Kd.V_alloc | apply Kd.V_drewN | apply Kd.V_drew)); exact Kd.V_mono (Kd.V_fw3 HO_359001.out (fun _ hk => hk.2)) (fun _ hk => ⟨hk.1.1, ⟨hk.1.2.1, ⟨hk.1.2.2.1, ⟨hk.1.2.2.2.1, ⟨hk.1.2.2.2.2.1, ⟨hk.1.2.2.2.2.2, hk.2⟩⟩⟩⟩⟩⟩)))⟩; replace HO_359002 : Aside0 (Kd.V k27 27 w89 w.heap.size (fun k_ => (P0_2_ k_ ∨ w.heap.size ≤ k_) ∧ some k_ ≠ (u356001 : Value).ownBlock ∧ k_ ≠ gb347 ∧ k_ ≠ gb348 ∧ k_ ≠ gb355 ∧ k_ ≠ gb358 ∧ k_ ≠ gb369) (.slice (some ad368) ((rd_T27 l0_2 x22_1).f2).length c357_2) ((rd_T27 l0_2 x22_1).f2)) := ⟨(by rw [hw]; exact (by (with_reducible repeat (first | apply Kd.V_alloc | apply Kd.V_drewN | apply Kd.V_drew)); exact Kd.V_mono (Kd.V_fw3 HO_359002.out (fun _ hk => hk.2)) (fun _ hk => ⟨hk.1.1, ⟨hk.1.2.1, ⟨hk.1.2.2.1, ⟨hk.1.2.2.2.1, ⟨hk.1.2.2.2.2.1, ⟨hk.1.2.2.2.2.2, hk.2⟩⟩⟩⟩⟩⟩)))⟩; replace HL368_1 : Aside0 (Kd.V (Kd.int .i64) 3 w89 w.heap.size (fun k_ => (P0_2_ k_ ∨ w.heap.size ≤ k_) ∧ some k_ ≠ (u356001 : Value).ownBlock ∧ k_ ≠ gb347 ∧ k_ ≠ gb348 ∧ k_ ≠ gb355 ∧ k_ ≠ gb358 ∧ k_ ≠ gb369) (.slice A368_1 ((rd_T27 ((rd_T27 l0_2 x22_1).f2) x70_4).f1).length c368_1) ((rd_T27 ((rd_T27 l0_2 x22_1).f2) x70_4).f1)) := ⟨(by rw [hw]; exact (by (with_reducible repeat (first | apply Kd.V_alloc | apply Kd.V_drewN | apply Kd.V_drew)); exact Kd.V_mono (Kd.V_fw3 HL368_1.out (fun _ hk => hk.2)) (fun _ hk => ⟨hk.1.1, ⟨hk.1.2.1, ⟨hk.1.2.2.1, ⟨hk.1.2.2.2.1, ⟨hk.1.2.2.2.2.1, ⟨hk.1.2.2.2.2.2, hk.2⟩⟩⟩⟩⟩⟩)))⟩; replace HL368_2 : Aside0 (Kd.V k27 27 w89 w.heap.size (fun k_ => (P0_2_ k_ ∨ w.heap.size ≤ k_) ∧ some k_ ≠ (u356001 : Value).ownBlock ∧ k_ ≠ gb347 ∧ k_ ≠ gb348 ∧ k_ ≠ gb355 ∧ k_ ≠ gb358 ∧ k_ ≠ gb369) (.slice A368_2 ((rd_T27 ((rd_T27 l0_2 x22_1).f2) x70_4).f2).length c368_2) ((rd_T27 ((rd_T27 l0_2 x22_1).f2) x70_4).f2)) := ⟨(by rw [hw]; exact (by (with_reducible repeat (first | apply Kd.V_alloc | apply Kd.V_drewN | apply Kd.V_drew)); exact Kd.V_mono (Kd.V_fw3 HL368_2.out (fun _ hk => hk.2)) (fun _ hk => ⟨hk.1.1, ⟨hk.1.2.1, ⟨hk.1.2.2.1, ⟨hk.1.2.2.2.1, ⟨hk.1.2.2.2.2.1, ⟨hk.1.2.2.2.2.2, hk.2⟩⟩⟩⟩⟩⟩)))⟩; replace BK347 : Aside0 (w89.heap[gb347]? = some (.cells #[.int .i64 a0_0, .slice A0_1 l0_1.length c0_1, .slice (some ad357) l0_2.length c0_2] 27 (0, 0))) := ⟨(by rw [hw]; exact (bF BK347))⟩; replace BK348 : Aside0 (w89.heap[gb348]? = some (.cells #[.int .i64 0, .slice none 0 0, .slice none 0 0] 27 (0, 0))) := ⟨(by rw [hw]; exact (bF BK348))⟩; replace BK355 : Aside0 (w89.heap[gb355]? = some (.cells #[.int .i64 a0_0, u356001, u356002] 27 (0, 0))) := ⟨(by rw [hw]; exact (bF BK355))⟩; replace BK358 : Aside0 (w89.heap[gb358]? = some (.cells #[.int .i64 ((rd_T27 l0_2 x22_1).f0), .slice A357_1 ((rd_T27 l0_2 x22_1).f1).length c357_1, .slice (some ad368) ((rd_T27 l0_2 x22_1).f2).length c357_2] 27 (0, 0))) := ⟨(by rw [hw]; exact (bF BK358))⟩; replace BK369 : Aside0 (w89.heap[gb369]? = some (.cells #[.int .i64 ((rd_T27 ((rd_T27 l0_2 x22_1).f2) x70_4).f0), .slice A368_1 ((rd_T27 ((rd_T27 l0_2 x22_1).f2) x70_4).f1).length c368_1, .slice A368_2 ((rd_T27 ((rd_T27 l0_2 x22_1).f2) x70_4).f2).length c368_2] 27 (0, 0))) := ⟨(by rw [hw]; exact (bP3 BK369))⟩; replace HB : Aside0 (Below w.heap.size w w89) := ⟨(by rw [hw]; exact (bB HB))⟩; clear hw; have hnb90 := NB355_347.out; have hnc90 := NB347_355.out; have hnb91 := NB355_348.out; have hnc91 := NB348_355.out; have hnb92 := NB355_358.out; have hnc92 := NB358_355.out; have hcz93_0 := bC0 BK355; have hcz93_1 := bC1 BK355; have hcz93_2 := bC2 BK355; have hfz93_0 := blk_frozen BK355.out 0; have hfz93_1 := blk_frozen BK355.out 1; have hfz93_2 := blk_frozen BK355.out 2; have hcz94_0 := bC0 BK369; have hcz94_1 := bC1 BK369; have hcz94_2 := bC2 BK369; have hfz94_0 := blk_frozen BK369.out 0; have hfz94_1 := blk_frozen BK369.out 1; have hfz94_2 := blk_frozen BK369.out 2; obtain ⟨Ao95, co95, eo95⟩ := Kd.V_slice HO_356002.out; subst eo95) | ((with_reducible refine gate_callee (f := 67) rfl ?_); refine goesA_ (some 77) rfl rfl Try.func67 rfl #[.slice Ao95 x356002_4.length co95, .agg #[.int .i64 ((rd_T27 ((rd_T27 l0_2 x22_1).f2) x70_4).f0), .slice A368_1 ((rd_T27 ((rd_T27 l0_2 x22_1).f2) x70_4).f1).length c368_1, .slice A368_2 ((rd_T27 ((rd_T27 l0_2 x22_1).f2) x70_4).f2).length c368_2]] rfl ?_; (with_reducible refine (trustquorumref04_with.calls k4 (fun k_ => ((P0_2_ k_ ∨ w.heap.size ≤ k_) ∧ (some k_ ≠ (u356001 : Value).ownBlock ∧ (k_ ≠ gb347 ∧ (k_ ≠ gb348 ∧ (k_ ≠ gb355 ∧ (k_ ≠ gb358 ∧ k_ ≠ gb369))))))) _ _ x356002_4 ((rd_T27 ((rd_T27 l0_2 x22_1).f2) x70_4).f0) (fun k_ => ((P0_2_ k_ ∨ w.heap.size ≤ k_) ∧ (some k_ ≠ (u356001 : Value).ownBlock ∧ (k_ ≠ gb347 ∧ (k_ ≠ gb348 ∧ (k_ ≠ gb355 ∧ (k_ ≠ gb358 ∧ k_ ≠ gb369))))))) _ _ ((rd_T27 ((rd_T27 l0_2 x22_1).f2) x70_4).f1) (fun k_ => ((P0_2_ k_ ∨ w.heap.size ≤ k_) ∧ (some k_ ≠ (u356001 : Value).ownBlock ∧ (k_ ≠ gb347 ∧ (k_ ≠ gb348 ∧ (k_ ≠ gb355 ∧ (k_ ≠ gb358 ∧ k_ ≠ gb369))))))) _ _ ((rd_T27 ((rd_T27 l0_2 x22_1).f2) x70_4).f2) t370 _ ?side1 ?side2 ?side3 A82.out).mono ?_); (case side1 => exact HO_356002.out); (case side2 => exact HL368_1.out); (case side3 => exact HL368_2.out); rintro e w96 ⟨v371, rfl, ho0, hb⟩; refine ⟨_, rfl, ?_⟩; replace HO_20 := Kd.bV HO_20 hb; replace HO_68 := Kd.bV HO_68 hb; replace HO_348002 := Kd.bV HO_348002 hb; replace HO_356002 := Kd.bV HO_356002 hb; replace HO_359001 := Kd.bV HO_359001 hb; replace HO_359002 := Kd.bV HO_359002 hb; replace HL368_1 := Kd.bV HL368_1 hb; replace HL368_2 := Kd.bV HL368_2 hb; have HO372 := Aside0.mk (Kd.V_lower (Kd.V_mono (ok' := fun k_ => (P0_2_ k_ ∨ w.heap.size ≤ k_) ∧ some k_ ≠ (u356001 : Value).ownBlock ∧ k_ ≠ gb347 ∧ k_ ≠ gb348 ∧ k_ ≠ gb355 ∧ k_ ≠ gb358 ∧ k_ ≠ gb369) ho0 (fun k_ hk_ => ⟨Or.elim hk_ (fun hs_ => Or.elim hs_ (fun hs_ => hs_.1) (fun hs_ => Or.elim hs_ (fun hs_ => hs_.1) (fun hs_ => hs_.1))) (fun hn_ => (.inr (Nat.le_trans (below_size (bB HB)) hn_))), Or.elim hk_ (fun hs_ => Or.elim hs_ (fun hs_ => hs_.2.1) (fun hs_ => Or.elim hs_ (fun hs_ => hs_.2.1) (fun hs_ => hs_.2.1))) (fun hn_ => (Kd.fresh' (Kd.R_lt (Kd.uR HO_356001)) k_ hn_)), Or.elim hk_ (fun hs_ => Or.elim hs_ (fun hs_ => hs_.2.2.1) (fun hs_ => Or.elim hs_ (fun hs_ => hs_.2.2.1) (fun hs_ => hs_.2.2.1))) (fun hn_ => (Kd.freshB (bU BK347) k_ hn_)), Or.elim hk_ (fun hs_ => Or.elim hs_ (fun hs_ => hs_.2.2.2.1) (fun hs_ => Or.elim hs_ (fun hs_ => hs_.2.2.2.1) (fun hs_ => hs_.2.2.2.1))) (fun hn_ => (Kd.freshB (bU BK348) k_ hn_)), Or.elim hk_ (fun hs_ => Or.elim hs_ (fun hs_ => hs_.2.2.2.2.1) (fun hs_ => Or.elim hs_ (fun hs_ => hs_.2.2.2.2.1) (fun hs_ => hs_.2.2.2.2.1))) (fun hn_ => (Kd.freshB (bU BK355) k_ hn_)), Or.elim hk_ (fun hs_ => Or.elim hs_ (fun hs_ => hs_.2.2.2.2.2.1) (fun hs_ => Or.elim hs_ (fun hs_ => hs_.2.2.2.2.2.1) (fun hs_ => hs_.2.2.2.2.2.1))) (fun hn_ => (Kd.freshB (bU BK358) k_ hn_)), Or.elim hk_ (fun hs_ => Or.elim hs_ (fun hs_ => hs_.2.2.2.2.2.2) (fun hs_ => Or.elim hs_ (fun hs_ => hs_.2.2.2.2.2.2) (fun hs_ => hs_.2.2.2.2.2.2))) (fun hn_ => (Kd.freshB (bU BK369) k_ hn_))⟩)) (below_size (bB HB))); replace HO_356001 := Kd.bR HO_356001 hb; replace BK347 := bb BK347 hb; replace BK348 := bb BK348 hb; replace BK355 := bb BK355 hb; replace BK358 := bb BK358 hb; (try replace HR368_1 := Aside0.mk (Kd.C_below (by repeat (first | (with_reducible exact HR368_1.out) | (with_reducible refine Kd.C_alloc ?_ _) | (with_reducible refine Kd.C_drewN ?_ _) | (with_reducible refine Kd.C_drew ?_) | exact HR368_1.out)) hb)); (try replace HR368_2 := Aside0.mk (Kd.C_below (by repeat (first | (with_reducible exact HR368_2.out) | (with_reducible refine Kd.C_alloc ?_ _) | (with_reducible refine Kd.C_drewN ?_ _) | (with_reducible refine Kd.C_drew ?_) | exact HR368_2.out)) hb)); replace BK369 := bb BK369 hb; replace HB := bs HB hb; (try clear hb); (try clear hb2); (try clear hk); (try clear hi); (try clear ho0); obtain ⟨Ao97, co97, eo97⟩ := Kd.V_slice HO372.out; subst eo97; have hcz98_0 := bC0 BK355; have hcz98_1 := bC1 BK355; have hcz98_2 := bC2 BK355; have hfz98_0 := blk_frozen BK355.out 0; have hfz98_1 := blk_frozen BK355.out 1; have hfz98_2 := blk_frozen BK355.out 2))
                  go_roundg k4
                  case measure => have := HK1.out; have := HJ22.out; have := HK3.out; have := HK4.out; omega
                  case rel => exact ⟨(wrap64 (x70_4 + 1)), (t370), (.slice Ao97 t370.length co97), (by first | rfl | (simp; done) | (simp [*]; done)), H', ⟨by have := HK1.out; have := HJ22.out; have := HK3.out; have := HK4.out; omega⟩, ⟨by (with_reducible repeat (first | apply Kd.V_alloc | apply Kd.V_drewN | apply Kd.V_drew)); exact Kd.V_mono (Kd.V_fw1 HO_20.out (fun _ hk => hk.2.2.2.2.1)) (fun _ hk => ⟨hk.1, ⟨hk.2.1, ⟨hk.2.2.1, ⟨hk.2.2.2.1, ⟨hk.2.2.2.2.1, hk.2.2.2.2.2.1⟩⟩⟩⟩⟩)⟩, ⟨by (with_reducible repeat (first | apply Kd.V_alloc | apply Kd.V_drewN | apply Kd.V_drew)); exact Kd.V_mono (Kd.V_fw1 HO_68.out (fun _ hk => hk.2.2.2.2.1)) (fun _ hk => ⟨hk.1, ⟨hk.2.1, ⟨hk.2.2.1, ⟨hk.2.2.2.1, ⟨hk.2.2.2.2.1, hk.2.2.2.2.2.1⟩⟩⟩⟩⟩)⟩, ⟨by (with_reducible repeat (first | apply Kd.V_alloc | apply Kd.V_drewN | apply Kd.V_drew)); exact Kd.V_mono (Kd.V_fw1 HO_348002.out (fun _ hk => hk.2.2.2.2.1)) (fun _ hk => ⟨hk.1, ⟨hk.2.1, ⟨hk.2.2.1, ⟨hk.2.2.2.1, ⟨hk.2.2.2.2.1, hk.2.2.2.2.2.1⟩⟩⟩⟩⟩)⟩, ⟨by (with_reducible repeat (first | apply Kd.R_alloc | apply Kd.R_drewN | apply Kd.R_drew)); exact Kd.R_ft1 (Kd.R_types HO_356001.out BK355.out (by decide))⟩, ⟨by (with_reducible repeat (first | apply Kd.V_alloc | apply Kd.V_drewN | apply Kd.V_drew)); exact Kd.V_mono (Kd.V_fw1 HO372.out (fun _ hk => hk.2.2.2.2.1)) (fun _ hk => ⟨hk.1, ⟨hk.2.1, ⟨hk.2.2.1, ⟨hk.2.2.2.1, ⟨hk.2.2.2.2.1, hk.2.2.2.2.2.1⟩⟩⟩⟩⟩)⟩, ⟨by (with_reducible repeat (first | apply Kd.V_alloc | apply Kd.V_drewN | apply Kd.V_drew)); exact Kd.V_mono (Kd.V_fw1 HO_359001.out (fun _ hk => hk.2.2.2.2.1)) (fun _ hk => ⟨hk.1, ⟨hk.2.1, ⟨hk.2.2.1, ⟨hk.2.2.2.1, ⟨hk.2.2.2.2.1, hk.2.2.2.2.2.1⟩⟩⟩⟩⟩)⟩, ⟨by (with_reducible repeat (first | apply Kd.V_alloc | apply Kd.V_drewN | apply Kd.V_drew)); exact Kd.V_mono (Kd.V_fw1 HO_359002.out (fun _ hk => hk.2.2.2.2.1)) (fun _ hk => ⟨hk.1, ⟨hk.2.1, ⟨hk.2.2.1, ⟨hk.2.2.2.1, ⟨hk.2.2.2.2.1, hk.2.2.2.2.2.1⟩⟩⟩⟩⟩)⟩, ⟨bF BK347⟩, ⟨bF BK348⟩, ⟨by (with_reducible repeat (first | refine blk_drewN ?_ _ | refine blk_drew ?_ | refine blk_alloc ?_ _)); refine blk_put (cs := #[.int .i64 a0_0, u356001, .slice Ao95 x356002_4.length co95]) ?_ 2 _ rfl; (with_reducible repeat (first | refine blk_drewN ?_ _ | refine blk_drew ?_ | refine blk_alloc ?_ _)); exact BK355.out⟩, ⟨bF BK358⟩, ⟨bB HB⟩⟩
                 ·rw [if_neg c81] at H
                  exact absurd H (by simp)
                ·rw [if_neg c80] at H
                 exact absurd H (by simp)
               ·rw [if_neg c79] at H
                have c79b0 : decide (x70_4 < (((rd_T27 l0_2 x22_1).f2).length : Int)) = false := decide_eq_false c79
                clear c79
                have H' := Aside0.mk H
                clear H
                go_wp2
                go_roundg k4
                case measure => have := HK1.out; have := HJ22.out; have := HK3.out; have := HK4.out; omega
                case rel => exact ⟨(wrap64 (x22_1 + 1)), (x356001_3), (x356002_4), (u356001), (u356002), (by first | rfl | (simp; done) | (simp [*]; done)), H', ⟨by have := HK1.out; have := HJ22.out; have := HK3.out; have := HK4.out; omega⟩, ⟨by (with_reducible repeat (first | apply Kd.V_alloc | apply Kd.V_drewN | apply Kd.V_drew)); exact Kd.V_mono HO_20.out (fun _ hk => ⟨hk.1, ⟨hk.2.1, ⟨hk.2.2.1, ⟨hk.2.2.2.1, hk.2.2.2.2.1⟩⟩⟩⟩)⟩, ⟨by (with_reducible repeat (first | apply Kd.V_alloc | apply Kd.V_drewN | apply Kd.V_drew)); exact Kd.V_mono HO_348002.out (fun _ hk => ⟨hk.1, ⟨hk.2.1, ⟨hk.2.2.1, ⟨hk.2.2.2.1, hk.2.2.2.2.1⟩⟩⟩⟩)⟩, ⟨Kd.uR HO_356001⟩, ⟨by (with_reducible repeat (first | apply Kd.V_alloc | apply Kd.V_drewN | apply Kd.V_drew)); exact Kd.V_mono HO_356002.out (fun _ hk => ⟨hk.1, ⟨hk.2.1, ⟨hk.2.2.1, ⟨hk.2.2.2.1, hk.2.2.2.2.1⟩⟩⟩⟩)⟩, ⟨bU BK347⟩, ⟨bU BK348⟩, ⟨bU BK355⟩, ⟨bB HB⟩⟩
      ·rw [if_neg c22] at H
       exact absurd H (by simp)
     ·rw [if_neg c21] at H
      exact absurd H (by simp)
    ·rw [if_neg c20] at H
     have c20b0 : decide (x22_1 < (l0_2.length : Int)) = false := decide_eq_false c20
     clear c20
     by_cases c99 : a1 = true
     ·subst c99
      have H1 : ((trustquorumref04_count.f a0_0 x356001_1 x356002_1).bind fun t356 => (some (t356, x356001_1, x356002_1))) = some (r1, r2, r3) := by rw [if_pos rfl] at H; exact H
      clear H
      have H := H1
      clear H1
      replace H := Option.bind_eq_some_iff.mp H
      obtain ⟨t356, A1000, H⟩ := H
      replace H : (some (t356, x356001_1, x356002_1)) = some (r1, r2, r3) := H
      have A100 := Aside0.mk A1000
      clear A1000
      simp only [Option.some.injEq, Prod.mk.injEq] at H
      obtain ⟨rfl, rfl, rfl⟩ := H
      have hnb101 := NB355_347.out
      have hnc101 := NB347_355.out
      have hnb102 := NB355_348.out
      have hnc102 := NB348_355.out
      have hcz103_0 := bC0 BK355
      have hcz103_1 := bC1 BK355
      have hcz103_2 := bC2 BK355
      have hfz103_0 := blk_frozen BK355.out 0
      have hfz103_1 := blk_frozen BK355.out 1
      have hfz103_2 := blk_frozen BK355.out 2
      obtain ⟨Ao104, co104, eo104⟩ := Kd.R_slice HO_356001.out
      subst eo104
      obtain ⟨Ao105, co105, eo105⟩ := Kd.V_slice HO_356002.out
      subst eo105
      go_wp2_with (first | ((with_reducible refine gate_callee (f := 51) rfl ?_); refine goesA_ (some 83) rfl rfl Try.func51 rfl #[.agg #[.int .i64 a0_0, .slice Ao104 x356001_1.length co104, .slice Ao105 x356002_1.length co105]] rfl ?_; (with_reducible refine (trustquorumref04_count.calls a0_0 _ _ x356001_1 _ _ x356002_1 t356 _ ?side1 ?side2 ?side3 ?side4 A100.out).mono ?_); (case side1 => exact Kd.uC ((Kd.R_reads' HO_356001.out).2.2)); (case side2 => exact (Kd.R_reads' HO_356001.out).2.1); (case side3 => exact Kd.uC ((Kd.V_reads' HO_356002.out).2.2)); (case side4 => exact (Kd.V_reads' HO_356002.out).2.1); rintro e w106 ⟨rfl, hb⟩; refine ⟨_, rfl, ?_⟩; replace HO_20 := Kd.bV HO_20 hb; replace HO_348002 := Kd.bV HO_348002 hb; replace HO_356001 := Kd.bR HO_356001 hb; replace HO_356002 := Kd.bV HO_356002 hb; replace BK347 := bb BK347 hb; replace BK348 := bb BK348 hb; replace BK355 := bb BK355 hb; replace HB := bs HB hb; (try clear hb); (try clear hb2); (try clear hk); (try clear hi); have hcz107_0 := bC0 BK355; have hcz107_1 := bC1 BK355; have hcz107_2 := bC2 BK355; have hfz107_0 := blk_frozen BK355.out 0; have hfz107_1 := blk_frozen BK355.out 1; have hfz107_2 := blk_frozen BK355.out 2; have hnb108 := NB348_347.out; have hnc108 := NB347_348.out; have hcz109_0 := bC0 BK348; have hcz109_1 := bC1 BK348; have hcz109_2 := bC2 BK348; have hfz109_0 := blk_frozen BK348.out 0; have hfz109_1 := blk_frozen BK348.out 1; have hfz109_2 := blk_frozen BK348.out 2))
      refine bodyPost_ret (results_cell_row rfl _ _ gb348 27 #[.int .i64 t356, .slice Ao104 x356001_1.length co104, .slice Ao105 x356002_1.length co105] (0, 0) _ rfl (by (with_reducible repeat (first | refine blk_drewN ?_ _ | refine blk_drew ?_ | refine blk_alloc ?_ _)); refine blk_put (cs := #[.int .i64 t356, .slice Ao104 x356001_1.length co104, .slice none 0 0]) ?_ 2 _ rfl; (with_reducible repeat (first | refine blk_drewN ?_ _ | refine blk_drew ?_ | refine blk_alloc ?_ _)); refine blk_put (cs := #[.int .i64 t356, .slice none 0 0, .slice none 0 0]) ?_ 1 _ rfl; (with_reducible repeat (first | refine blk_drewN ?_ _ | refine blk_drew ?_ | refine blk_alloc ?_ _)); refine blk_put (cs := #[.int .i64 0, .slice none 0 0, .slice none 0 0]) ?_ 0 _ rfl; (with_reducible repeat (first | refine blk_drewN ?_ _ | refine blk_drew ?_ | refine blk_alloc ?_ _)); refine blk_far ?_ NB348_355.out _; (with_reducible repeat (first | refine blk_drewN ?_ _ | refine blk_drew ?_ | refine blk_alloc ?_ _)); exact BK348.out) Try.underlying27 rfl (by kernel_rfl)) rfl ?_
      exact ⟨_, _, by first | rfl | (simp [errW_none, errW_some] <;> rfl) | (simp [*, errW_none, errW_some] <;> rfl), by (with_reducible repeat (first | apply Kd.R_alloc | apply Kd.R_drewN | apply Kd.R_drew)); exact Kd.R_mono (Kd.R_far (p := ⟨gb348, 2, none⟩) (Kd.R_far (p := ⟨gb348, 1, none⟩) (Kd.R_far (p := ⟨gb348, 0, none⟩) (Kd.R_far (p := ⟨gb355, 0, none⟩) (Kd.R_types (Kd.R_types HO_356001.out BK355.out (by decide)) BK348.out (by decide)) (fun _ hk => hk.1.2) (.int .i64 t356)) (fun _ hk => hk.2) (.int .i64 t356)) (fun _ hk => hk.2) (.slice Ao104 x356001_1.length co104)) (fun _ hk => hk.2) (.slice Ao105 x356002_1.length co105)) (fun _ hk => hk.1.1), by (with_reducible repeat (first | apply Kd.V_alloc | apply Kd.V_drewN | apply Kd.V_drew)); exact Kd.V_mono (Kd.V_fw3 (Kd.V_fw1 HO_356002.out (fun _ hk => hk.2.2.2.2)) (fun _ hk => hk.2.2.2.1)) (fun _ hk => ⟨hk.1, hk.2.1⟩), bB HB⟩
     ·replace c99 := Bool.eq_false_iff.mpr c99
      subst c99
      have H1 : (some (a0_0, x356001_1, x356002_1)) = some (r1, r2, r3) := by rw [if_neg (show ¬ (false = true) by decide)] at H; exact H
      clear H
      have H := H1
      clear H1
      simp only [Option.some.injEq, Prod.mk.injEq] at H
      obtain ⟨rfl, rfl, rfl⟩ := H
      have hnb110 := NB355_347.out
      have hnc110 := NB347_355.out
      have hnb111 := NB355_348.out
      have hnc111 := NB348_355.out
      have hcz112_0 := bC0 BK355
      have hcz112_1 := bC1 BK355
      have hcz112_2 := bC2 BK355
      have hfz112_0 := blk_frozen BK355.out 0
      have hfz112_1 := blk_frozen BK355.out 1
      have hfz112_2 := blk_frozen BK355.out 2
      have hnb113 := NB348_347.out
      have hnc113 := NB347_348.out
      have hcz114_0 := bC0 BK348
      have hcz114_1 := bC1 BK348
      have hcz114_2 := bC2 BK348
      have hfz114_0 := blk_frozen BK348.out 0
      have hfz114_1 := blk_frozen BK348.out 1
      have hfz114_2 := blk_frozen BK348.out 2
      obtain ⟨Ao115, co115, eo115⟩ := Kd.R_slice HO_356001.out
      subst eo115
      obtain ⟨Ao116, co116, eo116⟩ := Kd.V_slice HO_356002.out
      subst eo116
      go_wp2
      refine bodyPost_ret (results_cell_row rfl _ _ gb348 27 #[.int .i64 a0_0, .slice Ao115 x356001_1.length co115, .slice Ao116 x356002_1.length co116] (0, 0) _ rfl (bP3 BK348) Try.underlying27 rfl (by kernel_rfl)) rfl ?_
      exact ⟨_, _, by first | rfl | (simp [errW_none, errW_some] <;> rfl) | (simp [*, errW_none, errW_some] <;> rfl), by (with_reducible repeat (first | apply Kd.R_alloc | apply Kd.R_drewN | apply Kd.R_drew)); exact Kd.R_ft3 (Kd.R_types HO_356001.out BK348.out (by decide)), by (with_reducible repeat (first | apply Kd.V_alloc | apply Kd.V_drewN | apply Kd.V_drew)); exact Kd.V_mono (Kd.V_fw3 HO_356002.out (fun _ hk => hk.2.2.2.1)) (fun _ hk => ⟨hk.1, hk.2.1⟩), bB HB⟩
 ·rw [if_neg c3] at H
  exact absurd H (by simp)
end Go.Proofs.Ytfkpimjiaijmgaa.G
end
section
namespace Go.Proofs.YtfkpimjiaijmgaaV
open Go Go.RowKit Go.Sort Go.Lib Go.Proofs Go.Proofs.YtfkpimjiaijmgaaW.PrintWords
theorem run_copy_cellsN {P : Program} (w : World) (dT sT ty elem : TypeId) (b o dLen dCap : Nat) (a : Addr) (sLen sCap sz n : Nat) (cs : List Value)
 (hu : P.underlying dT = some (.slice elem)) (hs : (P.info? elem).map (·.size) = some sz) (hn : n = Nat.min sLen dLen) (hcl : cs.length = n * sz)
 (hsrc : ∀ j v, cs[j]? = some v → w.cell? (a.add j) = some v) (hc : ∀ j, j < cs.length → (w.cell? ⟨b, o + j, none⟩).isSome = true) (hf : ∀ j, j < cs.length → w.frozen? ⟨b, o + j, none⟩ = false) (h1 : ∀ v ∈ cs, v.oneCell' = true) :
 (Builtin.copy_ #[dT, sT] ty #[.slice (some ⟨b, o, none⟩) dLen dCap, .slice (some a) sLen sCap]).run P w = .ok (goInt n) (w.setCells b o cs) := by
 have hl := run_loadCells_list (P := P) w a cs hsrc
 have hst := run_storeCells_cells (P := P) b o cs 0 w (by simpa using hc) (by simpa using hf) h1
 rw [hcl] at hl
 cases hq : P.info? elem with
 | none => simp [hq] at hs
 | some i =>
  have hi : i.size = sz := by simpa [hq] using hs
  simp [Builtin.copy_, run_underlying hu, Builtin.lenOf, Builtin.firstCells, sizeOf, typeInfo, hq, hi, ← hn, hl, hst]
/-- Nothing goes over where one of the two has no element. -/
theorem run_copy_noneN {P : Program} (w : World) (dT sT ty elem : TypeId) (d a : Option Addr) (dLen dCap sLen sCap sz : Nat) (hu : P.underlying dT = some (.slice elem)) (hs : (P.info? elem).map (·.size) = some sz) (hn : Nat.min sLen dLen = 0) :
 (Builtin.copy_ #[dT, sT] ty #[.slice d dLen dCap, .slice a sLen sCap]).run P w = .ok (goInt 0) w := by
 cases hq : P.info? elem with
 | none => simp [hq] at hs
 | some i =>
  have hl : ∀ (x : Addr), (loadCells x 0).run P w = .ok #[] w := fun x => by simpa using run_loadCells_list (P := P) w x [] (by simp)
  cases d <;> cases a <;> simp [Builtin.copy_, run_underlying hu, Builtin.lenOf, Builtin.firstCells, sizeOf, typeInfo, hq, hn, storeCells, hl]
theorem N_shift {α : Type} {d : Kd α} {P : Program} {W : World} {base g cap : Nat} {e t : TypeId} {ok : Nat → Prop} {xs : List α} (h : Kd.N d e W base ok (.slice (some ⟨g, 0, none⟩) xs.length cap) xs)
 (ht : P.underlying t = some (.slice e)) (hi : (P.info? e).map (·.size) = some d.sz) (k : Nat) (hk : k + 1 ≤ xs.length) :
 ∃ W1, (∀ ty dc sc, (Builtin.copy_ #[t, t] ty #[.slice (some ⟨g, (k + 1) * d.sz, none⟩) (xs.length - (k + 1)) dc, .slice (some ⟨g, k * d.sz, none⟩) (xs.length - k) sc]).run P W = .ok (goInt ((xs.length - (k + 1) : Nat) : Int)) W1) ∧
  Kd.N d e W1 base ok (.slice (some ⟨g, 0, none⟩) xs.length cap) (xs.take (k + 1) ++ (xs.drop k).take (xs.length - (k + 1))) ∧ W.grownBy W1 (some g) := by
 obtain ⟨h0, rows, hlr, hR, hf⟩ := h
 obtain ⟨hR0, inner, hown, hreps⟩ := hR
 have hil : inner.length = xs.length * d.sz := by rw [hreps.1, hlr]; rfl
 have hone : ∀ u ∈ inner, u.oneCell' = true := by
  intro u hu
  obtain ⟨j, hj, hju⟩ := List.getElem_of_mem hu
  have hz : 0 < d.sz := by
   rcases Nat.eq_zero_or_pos d.sz with h0 | h0
   ·rw [h0, Nat.mul_zero] at hil; omega
   ·exact h0
  have hq : j / d.sz < rows.length := by rw [hlr]; exact Nat.div_lt_of_lt_mul (by rw [Nat.mul_comm]; omega)
  have hr := hreps.2 (j / d.sz) _ (List.getElem?_eq_getElem hq)
  refine hr.2.2 u ?_
  show u ∈ (inner.drop (j / d.sz * d.sz)).take d.sz
  have hm := Nat.mod_lt j hz
  have hd := Nat.div_add_mod j d.sz
  refine List.mem_iff_getElem?.2 ⟨j % d.sz, ?_⟩
  rw [List.getElem?_take, if_pos hm, List.getElem?_drop, show j / d.sz * d.sz + j % d.sz = j by rw [Nat.mul_comm]; exact hd, List.getElem?_eq_getElem hj, hju]
 rw [hlr] at hown
 rcases hown.2 with ⟨h0', _⟩ | ⟨g', cap', cur, hv, hb, hh, hnc, hcm, hcs, htake⟩
 ·cases h0'
 cases hv
 replace hcs : cur.size = cap * d.sz := hcs
 replace htake : cur.toList.take (xs.length * d.sz) = inner := htake
 have hmul : ∀ a b : Nat, a ≤ b → a * d.sz ≤ b * d.sz := fun a b h => Nat.mul_le_mul_right _ h
 have e1 : (xs.length - (k + 1)) * d.sz = xs.length * d.sz - (k + 1) * d.sz := Nat.sub_mul _ _ _
 have e2 := hmul _ _ hk
 have e3 : (k + 1) * d.sz = k * d.sz + d.sz := by rw [Nat.add_mul, Nat.one_mul]
 have e4 := hmul _ _ hnc
 obtain ⟨cs, hcsd⟩ : ∃ cs, cs = (inner.drop (k * d.sz)).take ((xs.length - (k + 1)) * d.sz) := ⟨_, rfl⟩
 have hcl : cs.length = (xs.length - (k + 1)) * d.sz := by rw [hcsd, List.length_take, List.length_drop, hil]; omega
 have hin : ∀ j u, inner[j]? = some u → W.cell? ⟨g, j, none⟩ = some u := by
  intro j u hu
  rw [cell_of_row W g j cur e (0, 0) hh, ← Array.getElem?_toList]
  rw [← htake, List.getElem?_take] at hu
  split at hu
  ·exact hu
  ·cases hu
 have hr := fun (ty : TypeId) (dc sc : Nat) => run_copy_cellsN (P := P) W t t ty e g ((k + 1) * d.sz) (xs.length - (k + 1)) dc ⟨g, k * d.sz, none⟩ (xs.length - k) sc d.sz (xs.length - (k + 1)) cs ht hi (by simp only [Nat.min_def]; split <;> omega) hcl
  (fun j u hu => by
   rw [Addr.add_lit]
   refine hin _ _ ?_
   rw [hcsd, List.getElem?_take] at hu
   split at hu
   ·rw [List.getElem?_drop] at hu; exact hu
   ·cases hu)
  (fun j hj => by rw [cell_of_row W g _ cur e (0, 0) hh]; simp; omega) (fun j _ => blk_frozen hh _)
  (fun u hu => by rw [hcsd] at hu; exact hone u (List.mem_of_mem_drop (List.mem_of_mem_take hu)))
 obtain ⟨cur', h3, h4, h5⟩ := setCells_row cs ((k + 1) * d.sz) W cur hh (by omega)
 obtain ⟨s1, s2, s3, s4⟩ := setCells_same g cs ((k + 1) * d.sz) W
 have hg : W.grownBy (W.setCells g ((k + 1) * d.sz) cs) (some g) := ⟨s1, s2, s3, by rw [s4]; exact Nat.le_refl _, fun j _ hj => setCells_far _ _ j (fun he => hj (by rw [he]))⟩
 have hgo : (Value.slice (some ⟨g, 0, none⟩) xs.length cap).ownBlock = some g := rfl
 obtain ⟨inner', hin'⟩ : ∃ inner', inner' = inner.take ((k + 1) * d.sz) ++ cs := ⟨_, rfl⟩
 have hil' : inner'.length = xs.length * d.sz := by rw [hin', List.length_append, hcl, List.length_take, hil]; omega
 have hxl : (xs.take (k + 1) ++ (xs.drop k).take (xs.length - (k + 1))).length = xs.length := by rw [List.length_append, List.length_take, List.length_take, List.length_drop]; omega
 have hrow : ∀ j, j < xs.length → (inner'.drop (j * d.sz)).take d.sz = (inner.drop ((if j < k + 1 then j else j - 1) * d.sz)).take d.sz := by
  intro j hj
  have hj1 := hmul _ _ hj
  rw [Nat.succ_mul] at hj1
  refine List.ext_getElem? fun i => ?_
  rw [List.getElem?_take, List.getElem?_take]
  by_cases hi : i < d.sz
  ·rw [if_pos hi, if_pos hi, List.getElem?_drop, List.getElem?_drop, hin']
   by_cases hjk : j < k + 1
   ·have := hmul _ _ hjk
    rw [Nat.succ_mul] at this
    rw [if_pos hjk, List.getElem?_append_left (by rw [List.length_take, hil]; omega), List.getElem?_take, if_pos (by omega)]
   ·have e5 := hmul _ _ (Nat.le_of_not_lt hjk)
    have e6 : (j - 1) * d.sz = j * d.sz - d.sz := by rw [Nat.sub_mul, Nat.one_mul]
    rw [if_neg hjk, List.getElem?_append_right (by rw [List.length_take, hil]; omega), List.length_take, hil, Nat.min_eq_left e2, hcsd, List.getElem?_take, if_pos (by omega), List.getElem?_drop]
    congr 1
    omega
  ·rw [if_neg hi, if_neg hi]
 refine ⟨_, fun ty dc sc => hr ty dc sc, ⟨h0, Kd.chunks d.sz xs.length inner', by rw [Kd.chunks_length, hxl], ⟨fun b hb => hb.symm, inner', ?_, ?_⟩, ?_⟩, hg⟩
 ·rw [Kd.chunks_length]
  refine ⟨hil', .inr ⟨g, cap, cur', rfl, hb, h3, hnc, hcm, by rw [h4, hcs]; rfl, ?_⟩⟩
  have h6 : cur.toList.take ((k + 1) * d.sz) = inner.take ((k + 1) * d.sz) := by
   rw [← htake, List.take_take, Nat.min_eq_left e2]
  show cur'.toList.take (xs.length * d.sz) = inner'
  rw [h5, h6, hin', List.take_append_of_le_length (by rw [List.length_append, hcl, List.length_take, hil]; omega), List.take_of_length_le (by rw [List.length_append, hcl, List.length_take, hil]; omega)]
 ·refine ⟨by rw [Kd.chunks_length]; exact hil', fun j p hp => ?_⟩
  have hj : j < xs.length := by have := (List.getElem?_eq_some_iff.1 hp).1; rwa [Kd.chunks_length] at this
  have hpe := Kd.chunks_get hp
  refine ⟨hpe.symm, ?_, fun u hu => ?_⟩
  ·show ((inner'.drop (j * d.sz)).take d.sz).length = d.sz
   rw [List.length_take, List.length_drop, hil']
   have := hmul _ _ hj
   rw [Nat.succ_mul] at this
   exact Nat.min_eq_left (by omega)
  ·replace hu : u ∈ (inner'.drop (j * d.sz)).take d.sz := hu
   rw [hrow j hj] at hu
   exact hone u (List.mem_of_mem_drop (List.mem_of_mem_take hu))
 ·intro j x c hx hc
  have hj : j < xs.length := by have := (List.getElem?_eq_some_iff.1 hc).1; rwa [Kd.chunks_length] at this
  have hpe := Kd.chunks_get hc
  rw [hrow j hj] at hpe
  have key : ∀ i, i < xs.length → xs[i]? = some x → c = (inner.drop (i * d.sz)).take d.sz → Kd.FK d (W.setCells g ((k + 1) * d.sz) cs) (fun b => ok b ∧ some b ≠ (Value.slice (some ⟨g, 0, none⟩) xs.length cap).ownBlock) x c := by
   intro i hil hxi hci
   have hr := (hreps.2 i _ (List.getElem?_eq_getElem (by omega))).1
   refine Kd.FK_step (hf i x c hxi (by rw [hci]; show _ = some ((inner.drop (i * d.sz)).take d.sz); rw [show (inner.drop (i * d.sz)).take d.sz = rows[i] from hr]; exact List.getElem?_eq_getElem _)) (fun b hb hlt => hg.block b hlt (by rw [← hgo]; exact hb.2))
  by_cases hjk : j < k + 1
  ·rw [if_pos hjk] at hpe
   rw [List.getElem?_append_left (by rw [List.length_take]; omega), List.getElem?_take, if_pos hjk] at hx
   exact key j hj hx hpe
  ·rw [if_neg hjk] at hpe
   rw [List.getElem?_append_right (by rw [List.length_take]; omega), List.length_take, Nat.min_eq_left hk, List.getElem?_take] at hx
   split at hx
   ·rw [List.getElem?_drop, show k + (j - (k + 1)) = j - 1 by omega] at hx
    exact key (j - 1) (by omega) hx hpe
   ·cases hx
end Go.Proofs.YtfkpimjiaijmgaaV
end
