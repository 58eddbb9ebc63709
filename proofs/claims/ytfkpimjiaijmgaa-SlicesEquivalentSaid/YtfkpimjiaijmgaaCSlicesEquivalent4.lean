/- SlicesEquivalent: the texts of the claim, put together (part 5 of 7). The law is proved in the last one: it takes no condition beyond the statement's own. -/
import Derived.Maps.AppendAt
import Derived.RangeFuncBox
import Derived.RangeFuncLeaves
import Derived.RangeFuncNested
import Derived.RangeFuncBound
import Derived.RangeFuncCalls
import Derived.Shelf.Abstract
import Derived.Shelf.RegionOpen
import Derived.OwnWalkIn
import Derived.TacticsInMore
import Derived.LoopNIn
import Derived.LoopIn
import Derived.OwnWalk
import Derived.Deep.RegionHeld3
import Derived.Test.YtfkpimjiaijmgaaCSlicesEquivalent3
section
namespace Go.Proofs.Ytfkpimjiaijmgaa.G
open Go.RowKit Go.Proofs.YtfkpimjiaijmgaaW.PrintWords Go.Proofs.YtfkpimjiaijmgaaW.PrintLast Go.Proofs.YtfkpimjiaijmgaaW.PrintMore
attribute [local go_sem] max2_int min2_int max_two min_two max_three min_three max_four min_four   -- for this text's walks alone
set_option linter.unusedVariables false
set_option linter.unusedSimpArgs false
section
set_option maxRecDepth 100000
open Go.Sort Go.Lib YtfkpimjiaijmgaaV
def rsN (k : Nat) (ns : List Int) : Nat → Nat → List Int → Option (List Int)
 | 0, _, o => some o
 | d + 1, i, o => (trustquorumref04_has.f k ns (i : Int)).bind fun b => rsN k ns d (i + 1) (if b = true then o ++ [(i : Int)] else o)
def rsPos (k : Nat) (x : RT) (xs : List RT) : Nat → Option Nat
 | 0 => some 0
 | j + 1 => (trustquorumref04_Compare.f k (rd_T27 xs (j : Int)).f0 (rd_T27 xs (j : Int)).f1 (rd_T27 xs (j : Int)).f2 x.f0 x.f1 x.f2).bind fun c => if 0 < c then rsPos k x xs j else some (j + 1)
def rsI (k : Nat) : List RT → List RT → Option (List RT)
 | [], xs => some xs
 | x :: r, xs => (rsPos k x xs xs.length).bind fun p => rsI k r (xs.take p ++ x :: xs.drop p)
theorem put_lenG {α : Type} {out : List α} (x : α) (k : Nat) (h : k ≤ out.length) : (out.take k ++ x :: out.drop k).length = out.length + 1 := by
 rw [List.length_append, List.length_take, List.length_cons, List.length_drop]; omega
set_option maxHeartbeats 1000000 in
theorem sorted_walk (k : Nat) (ok : Nat → Prop) (t : RT) (A1 : Option Addr) (c1 : Nat) (A2 : Option Addr) (c2 : Nat) (ns : List Int) (is : List RT) (w : World) (h1 : Kd.C (Kd.int .i64) w A1 t.f1.length t.f1) (hc1 : t.f1.length ≤ c1) (h2 : Kd.F k27 w ok A2 t.f2.length t.f2) (hc2 : t.f2.length ≤ c2) (hl : t.f2.length < 1073741824) (hn : rsN k t.f1 10 0 [] = some ns) (hi : rsI k t.f2 [] = some is) :
 Calls Try.prog 52 #[.agg #[.int .i64 t.f0, .slice A1 t.f1.length c1, .slice A2 t.f2.length c2]] w fun e w' => ∃ v1_ v2_ : Value, e = .returned (.agg #[.int .i64 t.f0, v1_, v2_]) ∧ Kd.R (Kd.int .i64) 3 w' w.heap.size (fun k_ => (w.heap.size ≤ k_)) v1_ ns ∧ Kd.V k27 27 w' w.heap.size (fun k_ => (ok k_ ∨ w.heap.size ≤ k_) ∧ some k_ ≠ (v1_ : Value).ownBlock) v2_ is ∧ Below w.heap.size w w' := by
 have hu := Try.underlying27
 have H1 := Aside0.mk h1
 have H2 := Aside0.mk h2
 have HN := Aside0.mk hn
 have HI := Aside0.mk hi
 have HL := Aside0.mk hl
 have HC1 := Aside0.mk hc1
 have HC2 := Aside0.mk hc2
 clear h1 h2 hn hi hl hc1 hc2
 obtain ⟨ob, hob⟩ : ∃ ob : Obj, ob = .cells #[.int .i64 t.f0, .slice A1 t.f1.length c1, .slice A2 t.f2.length c2] 27 := ⟨_, rfl⟩
 have HOB := Aside0.mk hob
 go_enter Try.func52, Try.ntmps52
 go_wp2_with fail
 rw [← HOB.out]
 clear hob
 have e1 : (w.alloc ob).heap.size = w.heap.size + 1 := by simp
 have e2 : ((w.alloc ob).alloc (.cells #[.int .i64 0, .slice none 0 0, .slice none 0 0] 27)).heap.size = w.heap.size + 2 := by simp
 have p0 := blk_alloc (blk_alloc (heap_alloc_new w ob) (.cells #[.int .i64 0, .slice none 0 0, .slice none 0 0] 27)) (.cells #[.int .i64 t.f0, .slice none 0 0, .slice none 0 0] 27)
 have p1 := heap_alloc_new (w.alloc ob) (.cells #[.int .i64 0, .slice none 0 0, .slice none 0 0] 27)
 rw [e1] at p1
 replace p1 := blk_alloc p1 (.cells #[.int .i64 t.f0, .slice none 0 0, .slice none 0 0] 27)
 have p2 := heap_alloc_new ((w.alloc ob).alloc (.cells #[.int .i64 0, .slice none 0 0, .slice none 0 0] 27)) (.cells #[.int .i64 t.f0, .slice none 0 0, .slice none 0 0] 27)
 rw [e2] at p2
 have P0 := Aside0.mk p0
 have P1 := Aside0.mk p1
 have P2 := Aside0.mk p2
 clear p0 p1 p2 e1 e2
 have hs3 : w.heap.size + 3 ≤ (((w.alloc ob).alloc (.cells #[.int .i64 0, .slice none 0 0, .slice none 0 0] 27)).alloc (.cells #[.int .i64 t.f0, .slice none 0 0, .slice none 0 0] 27)).heap.size := by simp
 go_loopg [4] 10 (fun gq v4 wr => ∃ (i : Nat) (o : List Int) (Ao : Option Addr) (co : Nat), gq = 10 - i ∧ v4 = .int .i64 i ∧ i ≤ 10 ∧ o.length ≤ i ∧ Aside0 (rsN k t.f1 (10 - i) i o = some ns) ∧ Aside0 (wr.heap[w.heap.size]? = some ob) ∧ Aside0 (wr.heap[w.heap.size + 1]? = some (.cells #[.int .i64 0, .slice none 0 0, .slice none 0 0] 27 (0, 0))) ∧ Aside0 (wr.heap[w.heap.size + 2]? = some (.cells #[.int .i64 t.f0, .slice Ao o.length co, .slice none 0 0] 27 (0, 0))) ∧ Aside0 (Kd.R (Kd.int .i64) 3 wr (w.heap.size + 3) (fun _ => True) (.slice Ao o.length co) o) ∧ Aside0 (Below w.heap.size w wr) ∧ Aside0 (w.heap.size + 3 ≤ wr.heap.size))
 case atStart => exact ⟨0, [], none, 0, rfl, rfl, Nat.zero_le _, Nat.le_refl _, HN, P0, P1, P2, ⟨Kd.R_nil _ _ _ _ _⟩, ⟨by refine below_alloc (below_alloc (below_alloc (Below.refl _ w) _) _) _⟩, ⟨hs3⟩⟩
 case round =>
  obtain ⟨i, o, Ao, co, rfl, rfl, hi, hol, HK, HX0, HX1, HX2, HR, HW, HS⟩ := hrel
  have hne : ∀ b, b < w.heap.size + 3 → some b ≠ (Value.slice Ao o.length co).ownBlock := fun b hb he => by
   obtain ⟨_, inner, hown, _⟩ := HR.out
   have := own_base hown b he.symm
   omega
  have HNE := Aside0.mk hne
  clear hne hs3
  by_cases hlt : i < 10
  ·have hk := HK.out
   rw [show 10 - i = (10 - (i + 1)) + 1 by omega, rsN] at hk
   obtain ⟨b, hb, hk⟩ := Option.bind_eq_some_iff.1 hk
   have HB := Aside0.mk hb
   have HK2 := Aside0.mk hk
   have HI2 := Aside0.mk hi
   have HOL := Aside0.mk hol
   have hq := HX0.out
   rw [HOB.out] at hq
   have y1 : wr.cell? ⟨w.heap.size, 1, none⟩ = some (.slice A1 t.f1.length c1) := (blk_cell hq 1).trans rfl
   have z1 : ∀ nd, (wr.drewN nd).cell? ⟨w.heap.size + 2, 1, none⟩ = some (.slice Ao o.length co) := fun nd => (blk_cell (blk_drewN HX2.out nd) 1).trans rfl
   have hwi : wrap64 ((i : Int) + 1) = ((i + 1 : Nat) : Int) := by unfold wrap64; omega
   have q1 : (i : Int) < 10 := by omega
   clear hb hk hq hi hol HK
   cases b with
   | false =>
    rw [if_neg (by decide)] at HK2
    go_wp2_with (first | (go_at_call 49; (refine (trustquorumref04_has.calls k A1 c1 t.f1 (i : Int) false _ (Kd.C_below H1.out HW.out) HC1.out HB.out).mono ?_); rintro e w' ⟨rfl, ⟨nd, rfl⟩⟩))
    go_roundg (10 - (i + 1))
    case rel => exact ⟨i + 1, o, Ao, co, rfl, by first | rw [hwi] | rfl, by omega, Nat.le_succ_of_le HOL.out, HK2, HX0, HX1, HX2, ⟨Kd.R_drewN HR.out nd⟩, ⟨pw_below_drewN HW.out nd⟩, HS⟩
    case measure => omega
   | true =>
    rw [if_pos rfl] at HK2
    go_wp2_with (first | (go_at_call 49; (refine (trustquorumref04_has.calls k A1 c1 t.f1 (i : Int) true _ (Kd.C_below H1.out HW.out) HC1.out HB.out).mono ?_); rintro e w' ⟨rfl, ⟨nd, rfl⟩⟩) | (at_builtin; refine Kd.R_append (Kd.int .i64) (w0 := wr.drewN nd) (W := wr.drewN nd) (w.heap.size + 3) rfl (.tmp 20) (.tmp 22) 22 3 (.int .i64 0) 8 rfl Try.underlying22 info3 rfl (by decide) (by omega) (.slice Ao o.length co) o (i : Int) [.int .i64 (i : Int)] (fun _ => True) (fun _ => False) rfl rfl rfl (fun _ hk => hk.elim) (fun _ _ => trivial) (Kd.R_drewN HR.out nd) (Below.refl _ _) HS.out (by have := HOL.out; have := HI2.out; omega) ?_; intro v1 w2 ho hb hg hat; obtain ⟨A', c', rfl⟩ := Kd.R_slice ho; have HO := Aside0.mk ho; have HBb := Aside0.mk hb; have HG := Aside0.mk hg; have hq2 := blk_grown (blk_drewN HX2.out nd) hg (HNE.out _ (by omega)); have HQ2 := Aside0.mk hq2; have c21 : w2.cell? ⟨w.heap.size + 2, 1, none⟩ = some (.slice Ao o.length co) := (blk_cell hq2 1).trans rfl; have f21 := blk_frozen hq2 1; clear ho hb hg hat hq2))
    have el : (o ++ [(i : Int)]).length = o.length + 1 := by simp
    have hne2 : ∀ b : Nat, b < w.heap.size + 2 → b ≠ w.heap.size + 1 + 1 := fun b hb => by omega
    go_roundg (10 - (i + 1))
    case rel =>
     refine ⟨i + 1, o ++ [(i : Int)], A', c', rfl, by first | rw [hwi] | rfl, by omega, by rw [el]; exact Nat.succ_le_succ HOL.out, HK2, ⟨(Below.heap_setCell _ _ _ _ (hne2 _ (by omega))).trans (blk_grown (w := wr.drewN nd) HX0.out HG.out (HNE.out _ (by omega)))⟩, ⟨(Below.heap_setCell _ _ _ _ (hne2 _ (by omega))).trans (blk_grown (w := wr.drewN nd) HX1.out HG.out (HNE.out _ (by omega)))⟩, ⟨by rw [el]; exact blk_put HQ2.out 1 _ rfl⟩, ⟨?_⟩, ⟨below_set ((pw_below_drewN HW.out nd).trans (HBb.out.mono (by omega))) (by omega)⟩, ⟨?_⟩⟩
     ·refine Kd.R_mono (Kd.R_far (p := ⟨w.heap.size + 1 + 1, 1, none⟩) (Kd.R_mono (ok' := fun k => w.heap.size + 3 ≤ k) (Kd.R_bound HO.out) (fun k hk => hk.2.1)) (fun k hk he => ?_) _) (fun _ _ => trivial)
      have he2 : k = w.heap.size + 1 + 1 := he
      omega
     ·have h1 := HBb.out.size
      have h2 := HS.out
      simp only [World.setCell, World.drewN] at h1 ⊢
      simp
      omega
    case measure => omega
  ·obtain rfl : i = 10 := by omega
   have hk := HK.out
   rw [Nat.sub_self, rsN] at hk
   obtain rfl := Option.some.inj hk
   clear hk HK
   have hq := HX0.out
   rw [HOB.out] at hq
   have y2 : wr.cell? ⟨w.heap.size, 2, none⟩ = some (.slice A2 t.f2.length c2) := (blk_cell hq 2).trans rfl
   clear hq
   obtain ⟨ok2, hok2⟩ : ∃ ok2 : Nat → Prop, ok2 = fun g => ((ok g ∧ g < w.heap.size) ∨ w.heap.size + 3 ≤ g) ∧ some g ≠ (Value.slice Ao o.length co).ownBlock := ⟨_, rfl⟩
   have HO2 := Aside0.mk hok2
   have HL0 := Aside0.mk (show t.f2.length < 1073741824 from HL.out)
   clear hok2 hi hlt
   go_wp2_with fail
   go_loopg [28] t.f2.length (fun gq v28 wq => ∃ (j : Nat) (xs : List RT) (Ax : Option Addr) (cx : Nat), gq = t.f2.length - j ∧ v28 = .int .i64 j ∧ j ≤ t.f2.length ∧ xs.length ≤ j ∧ Aside0 (rsI k (t.f2.drop j) xs = some is) ∧ Aside0 (wq.heap[w.heap.size + 1]? = some (.cells #[.int .i64 0, .slice none 0 0, .slice none 0 0] 27 (0, 0))) ∧ Aside0 (wq.heap[w.heap.size + 2]? = some (.cells #[.int .i64 t.f0, .slice Ao o.length co, .slice Ax xs.length cx] 27 (0, 0))) ∧ Aside0 (Kd.R (Kd.int .i64) 3 wq (w.heap.size + 3) (fun _ => True) (.slice Ao o.length co) o) ∧ Aside0 (Kd.N k27 27 wq (w.heap.size + 3) ok2 (.slice Ax xs.length cx) xs) ∧ Aside0 (Below w.heap.size w wq) ∧ Aside0 (w.heap.size + 3 ≤ wq.heap.size))
   case atStart => exact ⟨0, [], none, 0, rfl, rfl, Nat.zero_le _, Nat.le_refl _, HI, HX1, HX2, HR, ⟨Kd.N_nil _ _ _ _ _⟩, HW, HS⟩
   case round =>
    obtain ⟨j, xs, Ax, cx, rfl, rfl, hj, hxl, HK, HX1', HX2', HR', HNr, HW', HS'⟩ := hrel
    clear HX0 HX1 HX2 HR HNE HW HS hol
    by_cases hlt : j < t.f2.length
    ·obtain ⟨ad, B1, d1, B2, d2, eA, x0, x1, x2, g1, f1, g2, f2⟩ := at_FT (Kd.F_below (Kd.F_bound H2.out) HW'.out) (j : Int) (by omega) (by omega)
     subst eA
     simp only [Int.toNat_natCast] at x0 x1 x2
     have hk := HK.out
     rw [List.drop_eq_getElem_cons hlt, rsI] at hk
     have ex : t.f2[j] = rd_T27 t.f2 (j : Int) := by unfold rd_T27; rw [Int.toNat_natCast, List.getD_eq_getElem?_getD, List.getElem?_eq_getElem hlt]; rfl
     rw [ex] at hk
     clear ex
     generalize rd_T27 t.f2 (j : Int) = x at x0 x1 x2 g1 f1 g2 f2 hk
     obtain ⟨p, hp, hk⟩ := Option.bind_eq_some_iff.1 hk
     have F1 := Aside0.mk f1
     have F2 := Aside0.mk f2
     have G1 := Aside0.mk g1
     have G2 := Aside0.mk g2
     have HP := Aside0.mk hp
     have HK2 := Aside0.mk hk
     have HJ := Aside0.mk hlt
     have HXL := Aside0.mk hxl
     obtain ⟨ox, hox⟩ : ∃ ox : Obj, ox = .cells #[.int .i64 x.f0, .slice B1 x.f1.length d1, .slice B2 x.f2.length d2] 27 := ⟨_, rfl⟩
     have HOX := Aside0.mk hox
     have z2 : ∀ o, (wr.alloc o).cell? ⟨w.heap.size + 2, 2, none⟩ = some (.slice Ax xs.length cx) := fun o => (blk_cell (blk_alloc HX2'.out o) 2).trans rfl
     clear f1 f2 g1 g2 hp hk HK hj hxl
     go_wp2_with fail
     rw [← HOX.out]
     clear hox
     obtain ⟨wo, rfl⟩ : ∃ wo, wo = wr := ⟨_, rfl⟩
     have mixed : Try.prog.follows Departure.mixedOrders = true := by kernel_rfl
     go_loopg [7] xs.length (fun gq v7 wi => ∃ m : Nat, gq = m ∧ v7 = .int .i64 m ∧ m ≤ xs.length ∧ Aside0 (rsPos k x xs m = some p) ∧ Aside0 (Below (wo.alloc ox).heap.size (wo.alloc ox) wi))
     case atStart => exact ⟨xs.length, rfl, rfl, Nat.le_refl _, HP, ⟨Below.refl _ _⟩⟩
     case round =>
      obtain ⟨m, hgm, rfl, hm, HPm, HBi⟩ := hrel
      obtain rfl := hgm.symm
      clear z2 x0 x1 x2
      have hsz : (wo.alloc ox).heap.size = wo.heap.size + 1 := by simp
      have bx2 := (HBi.out.block (w.heap.size + 2) (by have := HS'.out; omega)).trans (blk_alloc HX2'.out ox)
      have bxx := (HBi.out.block wo.heap.size (by omega)).trans (heap_alloc_new wo ox)
      have bx1 := (HBi.out.block (w.heap.size + 1) (by have := HS'.out; omega)).trans (blk_alloc HX1'.out ox)
      have BX1 := Aside0.mk bx1
      have BX2 := Aside0.mk bx2
      have BXX := Aside0.mk bxx
      have HNi := Aside0.mk (Kd.N_below (Kd.N_alloc HNr.out ox) HBi.out)
      have HRi := Aside0.mk (Kd.R_below (Kd.R_alloc HR'.out ox) HBi.out)
      have HWr := Aside0.mk (below_alloc (Below.refl _ wo) ox)
      have HWi := Aside0.mk (HWr.out.trans (HBi.out.mono (by rw [hsz]; omega)))
      have HWw := Aside0.mk (HW'.out.trans (HWi.out.mono HW'.out.size))
      rw [HOX.out] at bxx
      have z2 : wr.drew.cell? ⟨w.heap.size + 2, 2, none⟩ = some (.slice Ax xs.length cx) := (blk_cell bx2 2).trans rfl
      have v0 : wr.drew.cell? ⟨wo.heap.size, 0, none⟩ = some (.int .i64 x.f0) := (blk_cell bxx 0).trans rfl
      have v1 : wr.drew.cell? ⟨wo.heap.size, 1, none⟩ = some (.slice B1 x.f1.length d1) := (blk_cell bxx 1).trans rfl
      have v2 : wr.drew.cell? ⟨wo.heap.size, 2, none⟩ = some (.slice B2 x.f2.length d2) := (blk_cell bxx 2).trans rfl
      clear bx2 bxx bx1 hsz
      go_wp2_with fail
      go_cut [47] (fun v47 wc => ∃ b : Bool, v47 = .bool b ∧ Aside0 (b = true → ∃ m', m = m' + 1 ∧ rsPos k x xs m' = some p) ∧ Aside0 (b = false → p = m) ∧ Aside0 (Below wr.heap.size wr wc))
      case first =>
       have hpm := HPm.out
       by_cases hm0 : m = 0
       ·have q0 : decide (0 < m) = false := by simp; omega
        have hpe := Aside0.mk (show p = m by subst hm0; exact (Option.some.inj hpm).symm)
        clear hpm HPm hm0
        go_region_o
        all_goals
         try go_wp2_with fail
         go_meet
         case rel => exact ⟨false, rfl, ⟨by simp⟩, ⟨fun _ => hpe.out⟩, ⟨below_drew (Below.refl _ _)⟩⟩
       ·obtain ⟨m', hm'⟩ : ∃ m', m = m' + 1 := ⟨m - 1, by omega⟩
        have q0 : decide (0 < m) = true := by simp; omega
        have q1 : IntKind.i64.wrap ((m : Int) - 1) = (m' : Int) := by rw [IntKind.wrap_i64]; have := HXL.out; have := HJ.out; have := HL0.out; omega
        rw [hm', rsPos] at hpm
        obtain ⟨c, hc, hpm⟩ := Option.bind_eq_some_iff.1 hpm
        obtain ⟨ad2, E1, k1, E2, k2, eA, e0, e1, e2, l1, f1, l2, f2⟩ := at_FT (Kd.N_F HNi.out) (m' : Int) (by omega) (by omega)
        subst eA
        simp only [Int.toNat_natCast] at e0 e1 e2
        generalize rd_T27 xs (m' : Int) = y at e0 e1 e2 l1 f1 l2 f2 hc
        replace e0 : wr.drew.cell? _ = _ := e0
        replace e1 : wr.drew.cell? _ = _ := e1
        replace e2 : wr.drew.cell? _ = _ := e2
        have q2 : (m' : Int) < (xs.length : Int) := by omega
        have F3 := Aside0.mk f1
        have F4 := Aside0.mk f2
        have G3 := Aside0.mk l1
        have G4 := Aside0.mk l2
        have HC := Aside0.mk hc
        have HPM := Aside0.mk hpm
        have HM := Aside0.mk hm'
        have HMX := Aside0.mk hm
        clear f1 f2 l1 l2 hc hpm HPm hm' hm hm0
        go_region_with (go_at_call 68; (refine (trustquorumref04_Compare.calls k y.f0 E1 k1 y.f1 E2 k2 y.f2 x.f0 B1 d1 x.f1 B2 d2 x.f2 c _ (Kd.C_drew (Kd.F_now F3.out)) G3.out (Kd.C_drew (Kd.F_now F4.out)) G4.out (Kd.C_drew (Kd.F_now (Kd.F_below F1.out HWi.out))) G1.out (Kd.C_drew (Kd.F_now (Kd.F_below F2.out HWi.out))) G2.out HC.out).mono ?_); rintro e w2 ⟨rfl, hb⟩; have HB2 := Aside0.mk ((below_drew (Below.refl _ wr)).trans hb); clear hb)
        all_goals
         try go_wp2_with fail
         go_meet
         case rel =>
          refine ⟨decide (0 < c), rfl, ⟨fun hb => ⟨m', HM.out, ?_⟩⟩, ⟨fun hb => ?_⟩, HB2⟩
          ·have := HPM.out
           rwa [if_pos (of_decide_eq_true hb)] at this
          ·have := HPM.out
           rw [if_neg (of_decide_eq_false hb)] at this
           rw [HM.out]; exact (Option.some.inj this).symm
      case rest =>
       obtain ⟨b, rfl, HT, HF, HBc⟩ := hcut
       have HBn := Aside0.mk (HBi.out.trans (HBc.out.mono HBi.out.size))
       have HWn := Aside0.mk (HWi.out.trans (HBc.out.mono HWi.out.size))
       have HWc := Aside0.mk (HWw.out.trans (HBc.out.mono HWw.out.size))
       have HNc := Aside0.mk (Kd.N_below HNi.out HBc.out)
       have HRc := Aside0.mk (Kd.R_below HRi.out HBc.out)
       have BC1 := Aside0.mk (blk_below BX1.out HBc.out)
       have BC2 := Aside0.mk (blk_below BX2.out HBc.out)
       have BCX := Aside0.mk (blk_below BXX.out HBc.out)
       have HSc := Aside0.mk (show w.heap.size + 3 ≤ wc.heap.size from Nat.le_trans HS'.out (HWn.out.size))
       cases b with
       | true =>
        obtain ⟨m', hm', hp'⟩ := HT.out rfl
        have HP' := Aside0.mk hp'
        have HM := Aside0.mk hm'
        have q1 : IntKind.i64.wrap ((m : Int) - 1) = (m' : Int) := by rw [IntKind.wrap_i64]; have := HXL.out; have := HJ.out; have := HL0.out; omega
        have q2 : wrap64 ((m : Int) - 1) = (m' : Int) := by unfold wrap64; have := HXL.out; have := HJ.out; have := HL0.out; omega
        clear hp' hm' HPm HT HF
        go_wp2_with fail
        go_roundg m'
        case rel => exact ⟨m', rfl, by first | rfl | rw [q1] | rw [q2], by have := HM.out; omega, HP', HBn⟩
        case measure => have := HM.out; omega
       | false =>
        have hpe := HF.out rfl
        have hnx : ∀ b, b < w.heap.size + 3 → some b ≠ (Value.slice Ax xs.length cx).ownBlock := fun b hb he => by
         obtain ⟨_, rows, _, ⟨_, inner, hown, _⟩, _⟩ := HNc.out
         have := own_base hown b he.symm
         omega
        have HNX := Aside0.mk hnx
        have HBs := Aside0.mk (show wo.heap.size + 1 ≤ wc.heap.size from by have := HBn.out.size; simpa using this)
        clear hnx HT HF HPm HBi HWi HWw HNi HRi BX1 BX2 BXX HBc HBn
        subst hpe
        have z2 : wc.cell? ⟨w.heap.size + 2, 2, none⟩ = some (.slice Ax xs.length cx) := (blk_cell BC2.out 2).trans rfl
        have HM := Aside0.mk hm
        have hfx : Kd.FK k27 wc (fun _ => False) (⟨0, [], []⟩ : RT) [.int .i64 0, .slice none 0 0, .slice none 0 0] := k27_mkF wc (fun _ => False) (⟨0, [], []⟩ : RT) (Nat.le_refl 0) (Kd.F_nil _ _ _) (Nat.le_refl 0) (Kd.F_nil _ _ _)
        have HFX := Aside0.mk hfx
        have hok : ∀ k_, wc.heap.size ≤ k_ → ok2 k_ := fun k_ hk => by
         rw [HO2.out]
         refine ⟨.inr (Nat.le_trans HSc.out hk), fun he => ?_⟩
         have := Kd.R_lt HRc.out k_ he.symm
         omega
        have HOK := Aside0.mk hok
        clear hfx hok hm
        go_wp2_with (first | (at_builtin; refine Kd.N_append k27 (w0 := wc) (W := wc) (w.heap.size + 3) rfl (.tmp 51) (.tmp 53) 25 27 (.agg #[(.int .i64 0), (.slice none 0 0), (.slice none 0 0)]) 56 rfl Try.underlying25 info27 rfl (by decide) (by omega) (.slice Ax xs.length cx) xs (⟨0, [], []⟩ : RT) [.int .i64 0, .slice none 0 0, .slice none 0 0] ok2 (fun _ => False) rfl rfl HFX.out (fun _ hk => hk.elim) HOK.out HNc.out (Below.refl _ _) HSc.out (by have := HXL.out; have := HJ.out; have := HL0.out; omega) ?_; intro v5 w5 ho hb hg hat; obtain ⟨g, cap, rfl, hgb, hgl, cells, hcl⟩ := Kd.N_form ho (by rw [List.length_append]; exact Nat.succ_pos _); have HO5 := Aside0.mk ho; have HB5 := Aside0.mk hb; have HG5 := Aside0.mk hg; have HAT := Aside0.mk hat; have HGB := Aside0.mk hgb; have hq2 := blk_grown BC2.out hg (HNX.out _ (by omega)); have HQ2 := Aside0.mk hq2; have c22 : w5.cell? ⟨w.heap.size + 2, 2, none⟩ = some (.slice Ax xs.length cx) := (blk_cell hq2 2).trans rfl; have f22 := blk_frozen hq2 2; clear ho hb hg hat hq2 hgl hcl cells hgb))
        have el : (xs ++ [(⟨0, [], []⟩ : RT)]).length = xs.length + 1 := by simp
        have HG9 := Aside0.mk (show g ≠ wo.heap.size from by
         rcases HAT.out with h | ⟨b, h, hb⟩
         ·obtain ⟨_, rows, _, ⟨_, inner, hown, _⟩, _⟩ := HNr.out
          exact Nat.ne_of_lt (own_lt hown g h.symm)
         ·have hgb : g = b := Option.some.inj h
          have := HWn.out.size
          have hsz : (wo.alloc ox).heap.size = wo.heap.size + 1 := by simp
          have := HBs.out
          omega)
        have hcap := (Kd.N_reads' HO5.out).2.1
        rw [el] at hcap HO5
        obtain ⟨w6, hw6⟩ : ∃ w6, w6 = w5.setCell ⟨w.heap.size + 1 + 1, 2, none⟩ (.slice (some ⟨g, 0, none⟩) (xs.length + 1) cap) := ⟨_, rfl⟩
        rw [← hw6]
        have hgb := HGB.out
        have hWg : Below w.heap.size w w5 := HWc.out.trans (HB5.out.mono (by omega))
        have h61 : w6.heap[w.heap.size + 1]? = some (.cells #[.int .i64 0, .slice none 0 0, .slice none 0 0] 27 (0, 0)) := by rw [hw6]; exact (Below.heap_setCell _ _ _ _ (show w.heap.size + 1 ≠ w.heap.size + 1 + 1 by omega)).trans (blk_grown BC1.out HG5.out (HNX.out _ (by omega)))
        have h62 : w6.heap[w.heap.size + 2]? = some (.cells #[.int .i64 t.f0, .slice Ao o.length co, .slice (some ⟨g, 0, none⟩) (xs.length + 1) cap] 27 (0, 0)) := by rw [hw6]; exact blk_put HQ2.out 2 _ rfl
        have h6x : w6.heap[wo.heap.size]? = some ox := by
         rw [hw6]
         refine (Below.heap_setCell _ _ _ _ (show wo.heap.size ≠ w.heap.size + 1 + 1 by have := HS'.out; omega)).trans (blk_grown BCX.out HG5.out (fun he => ?_))
         obtain ⟨_, rows, _, ⟨_, inner, hown, _⟩, _⟩ := HNr.out
         have := own_lt hown _ he.symm
         omega
        have hB6 : Below w.heap.size w w6 := by rw [hw6]; exact below_set hWg (by omega)
        have hs6 : w.heap.size + 3 ≤ w6.heap.size := by
         have h1 := HB5.out.size
         have h2 := HSc.out
         rw [hw6]
         simp only [World.setCell] at h1 ⊢
         simp
         omega
        have hne2 : ∀ k_, ok2 k_ → k_ ≠ w.heap.size + 1 + 1 := fun k_ hk => by
         rw [HO2.out] at hk
         rcases hk.1 with h | h
         ·have := h.2; omega
         ·omega
        have hN6 : Kd.N k27 27 w6 (w.heap.size + 3) ok2 (.slice (some ⟨g, 0, none⟩) (xs.length + 1) cap) (xs ++ [(⟨0, [], []⟩ : RT)]) := by rw [hw6]; exact Kd.N_fw1 (p := ⟨w.heap.size + 1 + 1, 2, none⟩) HO5.out hne2
        have hR6 : Kd.R (Kd.int .i64) 3 w6 (w.heap.size + 3) (fun _ => True) (.slice Ao o.length co) o := by
         have hok := HNc.out.1
         have h5 := Kd.R_grown (Kd.R_tight (d := Kd.int .i64) rfl HRc.out) HG5.out (fun k_ hk he => by
          have := hok k_ he.symm
          rw [HO2.out] at this
          exact this.2 hk)
         rw [hw6]
         refine Kd.R_mono (Kd.R_far (p := ⟨w.heap.size + 1 + 1, 2, none⟩) (Kd.R_mono (ok' := fun k => w.heap.size + 3 ≤ k) (Kd.R_bound h5) (fun k hk => hk.2.1)) (fun k hk he => ?_) _) (fun _ _ => trivial)
         have he2 : k = w.heap.size + 1 + 1 := he
         omega
        have hg2 : g ≠ w.heap.size + 2 := by omega
        have HW0 := Aside0.mk (show w.heap.size ≤ w.heap.size + 3 by omega)
        have HBL := Aside0.mk (show ∀ (b : Nat), b < w.heap.size → ∀ {W9 : World}, Below w.heap.size w W9 → W9.heap[b]? = wo.heap[b]? from fun b hb W9 h9 => (h9.block b hb).trans (HW'.out.block b hb).symm)
        have HOKP := Aside0.mk (show ∀ b, (ok b ∧ b < w.heap.size) → ok2 b ∧ b ≠ g from fun b hb => by
         refine ⟨?_, by have := hb.2; omega⟩
         rw [HO2.out]
         refine ⟨.inl hb, fun he => ?_⟩
         obtain ⟨_, inner, hown, _⟩ := hR6
         have := own_base hown b he.symm
         have := hb.2
         omega)
        have hm := HM.out
        have hwj : wrap64 ((j : Int) + 1) = ((j + 1 : Nat) : Int) := by have := HJ.out; have := HL0.out; unfold wrap64; omega
        obtain ⟨f1, f2, f3, f4, f5, f6, f7, f8, f9, f10, f11⟩ := shift_facts p xs.length cap hm hcap (by have := HXL.out; have := HJ.out; have := HL0.out; omega)
        clear hw6 HNX HAT HB5 HG5 HQ2 HO5 HNc HRc BC1 BC2 BCX HWc HSc c22 f22 hWg z2
        have z2 : w6.drew.cell? ⟨w.heap.size + 2, 2, none⟩ = some (.slice (some ⟨g, 0, none⟩) (xs.length + 1) cap) := (blk_cell h62 2).trans rfl
        by_cases hcc : cap = p + 1
        ·subst hcc
         have hke' : xs.length - p = 0 := by omega
         obtain ⟨W1, hW1⟩ : ∃ W1, W1 = w6.drew := ⟨_, rfl⟩
         have hcp : ∀ (ty : TypeId) (A A' : Option Addr) (dc m sc : Nat), (Builtin.copy_ #[25, 25] ty #[.slice A' 0 dc, .slice A m sc]).run Try.prog w6.drew = .ok (goInt 0) W1 := fun ty A A' dc m sc => by
          rw [hW1]
          exact run_copy_noneN _ _ _ _ _ _ _ _ _ _ _ 3 Try.underlying25 (show (Try.prog.info? 27).map (·.size) = some 3 from by have h := congrArg (Option.map (fun t => t.2.1)) info27; simpa [Option.map_map, Function.comp_def] using h) (by simp)
         have hN7 : Kd.N k27 27 W1 (w.heap.size + 3) ok2 (.slice (some ⟨g, 0, none⟩) (xs.length + 1) (p + 1)) (xs ++ [(⟨0, [], []⟩ : RT)]) := by rw [hW1]; exact Kd.N_drew hN6
         have hg7 : w6.drew.grownBy W1 (some g) := by rw [hW1]; exact ⟨rfl, rfl, rfl, Nat.le_refl _, fun _ _ _ => rfl⟩
         have hset := ins_end xs p x (⟨0, [], []⟩ : RT) (by omega) hm
         have HG7 := Aside0.mk hg7
         have HN7 := Aside0.mk hN7
         have hq1 := blk_grown (w := w6.drew) h62 hg7 (by simp; omega)
         have hq2 := blk_grown (w := w6.drew) h6x hg7 (by simp; exact fun h => HG9.out h.symm)
         rw [HOX.out] at hq2
         have z2 : W1.cell? ⟨w.heap.size + 2, 2, none⟩ = some (.slice (some ⟨g, 0, none⟩) (xs.length + 1) (p + 1)) := (blk_cell hq1 2).trans rfl
         have v0 : W1.cell? ⟨wo.heap.size, 0, none⟩ = some (.int .i64 x.f0) := (blk_cell hq2 0).trans rfl
         have v1 : W1.cell? ⟨wo.heap.size, 1, none⟩ = some (.slice B1 x.f1.length d1) := (blk_cell hq2 1).trans rfl
         have v2 : W1.cell? ⟨wo.heap.size, 2, none⟩ = some (.slice B2 x.f2.length d2) := (blk_cell hq2 2).trans rfl
         obtain ⟨cc, hcl, _, hcc, hfr⟩ := Kd.N_elem hN7 (⟨0, [], []⟩ : RT) (p : Int) (Int.natCast_nonneg p) (Int.ofNat_lt.2 (Nat.lt_succ_of_le hm))
         obtain ⟨c0, c1, c2, rfl⟩ : ∃ c0 c1 c2, cc = [c0, c1, c2] := by
          match cc, hcl with
          | [a, b, c], _ => exact ⟨a, b, c, rfl⟩
         rw [Int.toNat_natCast] at hcc hfr
         have HCC := Aside0.mk (show ∀ j u, [c0, c1, c2][j]? = some u → W1.cell? ⟨g, (p : Int).toNat * (k27).sz + j, none⟩ = some u by rw [Int.toNat_natCast]; exact hcc)
         have u0 : W1.cell? ⟨g, p * 3, none⟩ = some c0 := hcc 0 _ rfl
         have u1 : W1.cell? ⟨g, p * 3 + 1, none⟩ = some c1 := hcc 1 _ rfl
         have u2 : W1.cell? ⟨g, p * 3 + 2, none⟩ = some c2 := hcc 2 _ rfl
         have r0 : W1.frozen? ⟨g, p * 3, none⟩ = false := hfr 0
         have r1 : W1.frozen? ⟨g, p * 3 + 1, none⟩ = false := hfr 1
         have r2 : W1.frozen? ⟨g, p * 3 + 2, none⟩ = false := hfr 2
         have HSET := Aside0.mk hset
         have hbw : Below w.heap.size w W1 := (below_drew hB6).grown hg7 (Nat.le_trans HW0.out hs6) (by intro j hj; cases hj; omega)
         have HFK := Aside0.mk (show Kd.FK k27 W1 (fun b => ok b ∧ b < w.heap.size) x ([c0, c1, c2].take 0 ++ [.int .i64 x.f0, .slice B1 x.f1.length d1, .slice B2 x.f2.length d2] ++ [c0, c1, c2].drop (0 + 3)) from k27_mkF W1 _ x G1.out (Kd.F_step (Kd.F_mono F1.out (fun _ h => h)) (fun b hb _ => HBL.out b hb.2 hbw)) G2.out (Kd.F_step (Kd.F_mono F2.out (fun _ h => h)) (fun b hb _ => HBL.out b hb.2 hbw)))
         have H61 := Aside0.mk h61
         have H62 := Aside0.mk h62
         have HB6 := Aside0.mk hB6
         have HS6 := Aside0.mk hs6
         have HR6 := Aside0.mk hR6
         have HN6 := Aside0.mk hN6
         clear hq1 hq2 hcl hcc hfr hN7 hg7 hset hbw h61 h62 h6x hB6 hs6 hR6 hN6 hgb hg2 hne2 hW1
         go_cut [65] (fun v65 wd => wd = W1)
         case first =>
          go_region_law_o (refine step_copy_runI rfl _ _ 25 25 rfl _ _ (by simp [Act.eval, Act.put, hke']) (by simp [Act.eval, Act.put]) (hcp _ _ _ _ _ _) ?_)
          all_goals
           try go_wp2_with fail
           go_meet
           case rel => exact rfl
         case rest =>
          obtain rfl := hcut.symm
          go_wp2_with fail
          have hfin : ∀ w8, W1.grownBy w8 (some g) → Kd.N k27 27 w8 (w.heap.size + 3) ok2 (.slice (some ⟨g, 0, none⟩) (xs.length + 1) (p + 1)) (xs.take p ++ x :: xs.drop p) → ((w8.heap[w.heap.size + 1]? = some (.cells #[.int .i64 0, .slice none 0 0, .slice none 0 0] 27 (0, 0))) ∧ (w8.heap[w.heap.size + 2]? = some (.cells #[.int .i64 t.f0, .slice Ao o.length co, .slice (some ⟨g, 0, none⟩) (xs.length + 1) (p + 1)] 27 (0, 0))) ∧ Kd.R (Kd.int .i64) 3 w8 (w.heap.size + 3) (fun _ => True) (.slice Ao o.length co) o ∧ Below w.heap.size w w8 ∧ w.heap.size + 3 ≤ w8.heap.size) := fun w8 hg8 _ => by
           have G := World.grownBy.trans HG7.out hg8
           refine ⟨blk_grown (w := w6.drew) H61.out G (by have := HGB.out; simp; omega), blk_grown (w := w6.drew) H62.out G (by have := HGB.out; simp; omega), ?_, (below_drew HB6.out).grown G (Nat.le_trans HW0.out HS6.out) (by intro j hj; cases hj; have := HGB.out; omega), Nat.le_trans HS6.out G.size⟩
           refine Kd.R_mono (Kd.R_grown (Kd.R_tight (d := Kd.int .i64) rfl (Kd.R_drew HR6.out)) G (fun k_ hk he => ?_)) (fun _ _ => trivial)
           have h1 := HN6.out.1 g rfl
           rw [HO2.out] at h1
           cases he
           exact h1.2 hk
          have hseg := Kd.N_seg HN7.out (p : Int) (Int.natCast_nonneg p) (Int.ofNat_lt.2 (Nat.lt_succ_of_le HM.out)) (c := [c0, c1, c2]) (seg := [.int .i64 x.f0, .slice B1 x.f1.length d1, .slice B2 x.f2.length d2]) (j := 0) (x' := x) (okp := fun b => ok b ∧ b < w.heap.size) rfl HCC.out (Nat.le_refl _) HFK.out HOKP.out
          rw [Int.toNat_natCast, HSET.out] at hseg
          obtain ⟨z1, z2, z3, z4, z5⟩ := hfin _ hseg.2 hseg.1
          go_roundg (t.f2.length - (j + 1))
          case rel => exact ⟨j + 1, xs.take p ++ x :: xs.drop p, some ⟨g, 0, none⟩, p + 1, rfl, by first | rw [hwj] | rfl, HJ.out, by rw [put_lenG x p HM.out]; exact Nat.succ_le_succ HXL.out, HK2, ⟨z1⟩, ⟨by rw [put_lenG x p HM.out]; exact z2⟩, ⟨z3⟩, ⟨by rw [put_lenG x p HM.out]; exact hseg.1⟩, ⟨z4⟩, ⟨z5⟩⟩
          case measure => have := HJ.out; omega
        ·obtain ⟨W1, hcp, hN7, hg7⟩ := N_shift (P := Try.prog) (by rw [el]; exact Kd.N_drew hN6) Try.underlying25 (show (Try.prog.info? 27).map (·.size) = some 3 from by have h := congrArg (Option.map (fun t => t.2.1)) info27; simpa [Option.map_map, Function.comp_def] using h) p (by rw [el]; omega)
         have hset := ins_eq xs p x (⟨0, [], []⟩ : RT) hm
         rw [el] at hset hN7 hcp
         replace hcp : ∀ (ty : TypeId) (dc sc : Nat), (Builtin.copy_ #[25, 25] ty #[.slice (some ⟨g, (p + 1) * 3, none⟩) (xs.length + 1 - (p + 1)) dc, .slice (some ⟨g, p * 3, none⟩) (xs.length + 1 - p) sc]).run Try.prog w6.drew = .ok (goInt ((xs.length + 1 - (p + 1) : Nat) : Int)) W1 := hcp
         rw [Nat.add_sub_add_right] at hcp
         have HG7 := Aside0.mk hg7
         have HN7 := Aside0.mk hN7
         have hq1 := blk_grown (w := w6.drew) h62 hg7 (by simp; omega)
         have hq2 := blk_grown (w := w6.drew) h6x hg7 (by simp; exact fun h => HG9.out h.symm)
         rw [HOX.out] at hq2
         have z2 : W1.cell? ⟨w.heap.size + 2, 2, none⟩ = some (.slice (some ⟨g, 0, none⟩) (xs.length + 1) cap) := (blk_cell hq1 2).trans rfl
         have v0 : W1.cell? ⟨wo.heap.size, 0, none⟩ = some (.int .i64 x.f0) := (blk_cell hq2 0).trans rfl
         have v1 : W1.cell? ⟨wo.heap.size, 1, none⟩ = some (.slice B1 x.f1.length d1) := (blk_cell hq2 1).trans rfl
         have v2 : W1.cell? ⟨wo.heap.size, 2, none⟩ = some (.slice B2 x.f2.length d2) := (blk_cell hq2 2).trans rfl
         obtain ⟨cc, hcl, _, hcc, hfr⟩ := Kd.N_elem hN7 (⟨0, [], []⟩ : RT) (p : Int) (Int.natCast_nonneg p) (Int.ofNat_lt.2 (Nat.lt_succ_of_le hm))
         obtain ⟨c0, c1, c2, rfl⟩ : ∃ c0 c1 c2, cc = [c0, c1, c2] := by
          match cc, hcl with
          | [a, b, c], _ => exact ⟨a, b, c, rfl⟩
         rw [Int.toNat_natCast] at hcc hfr
         have HCC := Aside0.mk (show ∀ j u, [c0, c1, c2][j]? = some u → W1.cell? ⟨g, (p : Int).toNat * (k27).sz + j, none⟩ = some u by rw [Int.toNat_natCast]; exact hcc)
         have u0 : W1.cell? ⟨g, p * 3, none⟩ = some c0 := hcc 0 _ rfl
         have u1 : W1.cell? ⟨g, p * 3 + 1, none⟩ = some c1 := hcc 1 _ rfl
         have u2 : W1.cell? ⟨g, p * 3 + 2, none⟩ = some c2 := hcc 2 _ rfl
         have r0 : W1.frozen? ⟨g, p * 3, none⟩ = false := hfr 0
         have r1 : W1.frozen? ⟨g, p * 3 + 1, none⟩ = false := hfr 1
         have r2 : W1.frozen? ⟨g, p * 3 + 2, none⟩ = false := hfr 2
         have HSET := Aside0.mk hset
         have hbw : Below w.heap.size w W1 := (below_drew hB6).grown hg7 (Nat.le_trans HW0.out hs6) (by intro j hj; cases hj; omega)
         have HFK := Aside0.mk (show Kd.FK k27 W1 (fun b => ok b ∧ b < w.heap.size) x ([c0, c1, c2].take 0 ++ [.int .i64 x.f0, .slice B1 x.f1.length d1, .slice B2 x.f2.length d2] ++ [c0, c1, c2].drop (0 + 3)) from k27_mkF W1 _ x G1.out (Kd.F_step (Kd.F_mono F1.out (fun _ h => h)) (fun b hb _ => HBL.out b hb.2 hbw)) G2.out (Kd.F_step (Kd.F_mono F2.out (fun _ h => h)) (fun b hb _ => HBL.out b hb.2 hbw)))
         have H61 := Aside0.mk h61
         have H62 := Aside0.mk h62
         have HB6 := Aside0.mk hB6
         have HS6 := Aside0.mk hs6
         have HR6 := Aside0.mk hR6
         have HN6 := Aside0.mk hN6
         clear hq1 hq2 hcl hcc hfr hN7 hg7 hset hbw h61 h62 h6x hB6 hs6 hR6 hN6 hgb hg2 hne2
         go_cut [65] (fun v65 wd => wd = W1)
         case first =>
          go_region_law_o (refine step_copy_runI rfl _ _ 25 25 rfl _ _ (by simp [Act.eval, Act.put]) (by simp [Act.eval, Act.put]) (hcp _ _ _) ?_)
          all_goals
           try go_wp2_with fail
           go_meet
           case rel => exact rfl
         case rest =>
          obtain rfl := hcut.symm
          go_wp2_with fail
          have hfin : ∀ w8, W1.grownBy w8 (some g) → Kd.N k27 27 w8 (w.heap.size + 3) ok2 (.slice (some ⟨g, 0, none⟩) (xs.length + 1) cap) (xs.take p ++ x :: xs.drop p) → ((w8.heap[w.heap.size + 1]? = some (.cells #[.int .i64 0, .slice none 0 0, .slice none 0 0] 27 (0, 0))) ∧ (w8.heap[w.heap.size + 2]? = some (.cells #[.int .i64 t.f0, .slice Ao o.length co, .slice (some ⟨g, 0, none⟩) (xs.length + 1) cap] 27 (0, 0))) ∧ Kd.R (Kd.int .i64) 3 w8 (w.heap.size + 3) (fun _ => True) (.slice Ao o.length co) o ∧ Below w.heap.size w w8 ∧ w.heap.size + 3 ≤ w8.heap.size) := fun w8 hg8 _ => by
           have G := World.grownBy.trans HG7.out hg8
           refine ⟨blk_grown (w := w6.drew) H61.out G (by have := HGB.out; simp; omega), blk_grown (w := w6.drew) H62.out G (by have := HGB.out; simp; omega), ?_, (below_drew HB6.out).grown G (Nat.le_trans HW0.out HS6.out) (by intro j hj; cases hj; have := HGB.out; omega), Nat.le_trans HS6.out G.size⟩
           refine Kd.R_mono (Kd.R_grown (Kd.R_tight (d := Kd.int .i64) rfl (Kd.R_drew HR6.out)) G (fun k_ hk he => ?_)) (fun _ _ => trivial)
           have h1 := HN6.out.1 g rfl
           rw [HO2.out] at h1
           cases he
           exact h1.2 hk
          have hseg := Kd.N_seg HN7.out (p : Int) (Int.natCast_nonneg p) (Int.ofNat_lt.2 (Nat.lt_succ_of_le HM.out)) (c := [c0, c1, c2]) (seg := [.int .i64 x.f0, .slice B1 x.f1.length d1, .slice B2 x.f2.length d2]) (j := 0) (x' := x) (okp := fun b => ok b ∧ b < w.heap.size) rfl HCC.out (Nat.le_refl _) HFK.out HOKP.out
          rw [Int.toNat_natCast, HSET.out] at hseg
          obtain ⟨z1, z2, z3, z4, z5⟩ := hfin _ hseg.2 hseg.1
          go_roundg (t.f2.length - (j + 1))
          case rel => exact ⟨j + 1, xs.take p ++ x :: xs.drop p, some ⟨g, 0, none⟩, cap, rfl, by first | rw [hwj] | rfl, HJ.out, by rw [put_lenG x p HM.out]; exact Nat.succ_le_succ HXL.out, HK2, ⟨z1⟩, ⟨by rw [put_lenG x p HM.out]; exact z2⟩, ⟨z3⟩, ⟨by rw [put_lenG x p HM.out]; exact hseg.1⟩, ⟨z4⟩, ⟨z5⟩⟩
          case measure => have := HJ.out; omega
    ·obtain rfl : j = t.f2.length := by omega
     have hk := HK.out
     rw [List.drop_length, rsI] at hk
     obtain rfl := Option.some.inj hk
     have y0 : wr.cell? ⟨w.heap.size + 2, 0, none⟩ = some (.int .i64 t.f0) := (blk_cell HX2'.out 0).trans rfl
     have y1 : wr.cell? ⟨w.heap.size + 2, 1, none⟩ = some (.slice Ao o.length co) := (blk_cell HX2'.out 1).trans rfl
     have y2 : wr.cell? ⟨w.heap.size + 2, 2, none⟩ = some (.slice Ax xs.length cx) := (blk_cell HX2'.out 2).trans rfl
     have z0 : wr.cell? ⟨w.heap.size + 1, 0, none⟩ = some (.int .i64 0) := (blk_cell HX1'.out 0).trans rfl
     have z1 : wr.cell? ⟨w.heap.size + 1, 1, none⟩ = some (.slice none 0 0) := (blk_cell HX1'.out 1).trans rfl
     have z2 : wr.cell? ⟨w.heap.size + 1, 2, none⟩ = some (.slice none 0 0) := (blk_cell HX1'.out 2).trans rfl
     have r0 := blk_frozen HX1'.out 0
     have r1 := blk_frozen HX1'.out 1
     have r2 := blk_frozen HX1'.out 2
     have hcx := (Kd.N_reads' HNr.out).2.1
     have HCX := Aside0.mk hcx
     clear hk HK hcx hj hxl hlt HI HN
     go_wp2_with fail
     refine bodyPost_ret (results_cell_row rfl _ _ (w.heap.size + 1) 27 #[.int .i64 t.f0, .slice Ao o.length co, .slice Ax xs.length cx] (0, 0) _ rfl (bP3 HX1') Try.underlying27 rfl (by kernel_rfl)) rfl ?_
     have hR9 := Kd.R_fw3 (a := .int .i64 t.f0) (b := .slice Ao o.length co) (c := .slice Ax xs.length cx) (i := 0) (j := 1) (k := 2) (g := w.heap.size + 1) (Kd.R_mono (ok' := fun k => w.heap.size + 3 ≤ k) (Kd.R_bound HR'.out) (fun k hk => hk.2.1)) (fun k hk => by omega)
     have hN9 := Kd.N_fw3 (a := .int .i64 t.f0) (b := .slice Ao o.length co) (c := .slice Ax xs.length cx) (i := 0) (j := 1) (k := 2) (g := w.heap.size + 1) HNr.out (fun k hk => by
      rw [HO2.out] at hk
      rcases hk.1 with h | h
      ·have := h.2; omega
      ·omega)
     refine ⟨.slice Ao o.length co, .slice Ax xs.length cx, rfl, Kd.R_mono (Kd.R_lower hR9 (by omega)) (fun k hk => by omega), ⟨Ax, cx, rfl, HCX.out, Kd.F_mono (Kd.N_F hN9) (fun k hk => ?_)⟩, below_set (below_set (below_set HW'.out (by omega)) (by omega)) (by omega)⟩
     rw [HO2.out] at hk
     refine ⟨?_, hk.2⟩
     rcases hk.1 with h | h
     ·exact .inl h.1
     ·exact .inr (by omega)
end
def trustquorumref04_sorted.f (k : Nat) (a0_0 : Int) (l0_1 : List Int) (l0_2 : List S27) : Option (Int × List Int × (List S27)) := if l0_2.length < 1073741824 then (rsN k l0_1 10 0 []).bind fun ns => (rsI k l0_2 []).bind fun is => some (a0_0, ns, is) else none
theorem trustquorumref04_sorted.calls (k : Nat) (a0_0 : Int) (A0_1 : Option Addr) (c0_1 : Nat) (l0_1 : List Int) (P0_2_ : Nat → Prop) (A0_2 : Option Addr) (c0_2 : Nat) (l0_2 : List (S27)) (r1 : Int) (r2 : List Int) (r3 : List S27) (w : World) (hr0_1 : Kd.C (Kd.int .i64) w A0_1 l0_1.length l0_1) (hc0_1 : l0_1.length ≤ c0_1) (hs0_2 : Kd.V k27 27 w w.heap.size (fun k_ => P0_2_ k_) (.slice A0_2 l0_2.length c0_2) l0_2) (h : trustquorumref04_sorted.f k a0_0 l0_1 l0_2 = some (r1, r2, r3)) :
 Calls Try.prog 52 #[.agg #[.int .i64 a0_0, .slice A0_1 l0_1.length c0_1, .slice A0_2 l0_2.length c0_2]] w fun e w' => ∃ v1_ v2_ : Value, e = .returned (.agg #[.int .i64 r1, v1_, v2_]) ∧ Kd.R (Kd.int .i64) 3 w' w.heap.size (fun k_ => (w.heap.size ≤ k_)) v1_ r2 ∧ Kd.V k27 27 w' w.heap.size (fun k_ => (P0_2_ k_ ∨ w.heap.size ≤ k_) ∧ some k_ ≠ (v1_ : Value).ownBlock) v2_ r3 ∧ Below w.heap.size w w' := by
 unfold trustquorumref04_sorted.f at h
 by_cases hl : l0_2.length < 1073741824
 ·rw [if_pos hl] at h
  obtain ⟨ns, hn, h⟩ := Option.bind_eq_some_iff.1 h
  obtain ⟨is, hi, h⟩ := Option.bind_eq_some_iff.1 h
  cases Option.some.inj h
  obtain ⟨B0, d0, e0, g0, f0⟩ := hs0_2
  injection e0 with q1 _ q2; subst q1; subst q2
  refine (sorted_walk k P0_2_ ⟨a0_0, l0_1, l0_2⟩ A0_1 c0_1 A0_2 c0_2 r2 r3 w hr0_1 hc0_1 f0 g0 hl hn hi).mono ?_
  rintro e w' ⟨v1, v2, he, h1, h2, hb⟩
  exact ⟨v1, v2, he, h1, h2, hb⟩
 ·rw [if_neg hl] at h
  cases h
end Go.Proofs.Ytfkpimjiaijmgaa.G
end
section
namespace Go.Proofs.Ytfkpimjiaijmgaa.G
open Go.RowKit Go.Proofs.YtfkpimjiaijmgaaW.PrintWords Go.Proofs.YtfkpimjiaijmgaaW.PrintLast Go.Proofs.YtfkpimjiaijmgaaW.PrintMore
attribute [local go_sem] max2_int min2_int max_two min_two max_three min_three max_four min_four   -- for this text's walks alone
set_option linter.unusedVariables false
set_option linter.unusedSimpArgs false
mutual
def trustquorumref04_normal.l0 : Nat → List (S27) → Int → Int → Int → List Int → List (S27) → Option (Int × List Int × (List (S27)))
 | 0, _, _, _, _, _, _ => none
 | k + 1, x15, x16, x17, x382000, x382001, x382002 => if x17 < x16 then (if 0 ≤ x17 then (if x17 < (x15.length : Int) then ((trustquorumref04_normal.f k ((rd_T27 x15 x17).f0) ((rd_T27 x15 x17).f1) ((rd_T27 x15 x17).f2)).bind fun bt384 => (if (bt384.2.1.length : Int) = 1 then (if (bt384.2.2.length : Int) = 0 then (if 0 < (bt384.2.1.length : Int) then ((trustquorumref04_has.f k x382001 (rd bt384.2.1 0)).bind fun t393 => (trustquorumref04_normal.j1 k x15 x16 x17 (!t393) x382000 x382001 x382002 bt384.1 bt384.2.1 bt384.2.2)) else (none)) else (trustquorumref04_normal.j1 k x15 x16 x17 false x382000 x382001 x382002 bt384.1 bt384.2.1 bt384.2.2)) else (trustquorumref04_normal.j1 k x15 x16 x17 false x382000 x382001 x382002 bt384.1 bt384.2.1 bt384.2.2))) else (none)) else (none)) else (if x382000 = 1 then ((trustquorumref04_merged.f k x382000 x382001 x382002 false).bind fun bt401 => (trustquorumref04_normal.j2 k bt401.1 bt401.2.1 bt401.2.2)) else ((trustquorumref04_count.f x382000 x382001 x382002).bind fun t408 => (if x382000 = t408 then ((trustquorumref04_merged.f k x382000 x382001 x382002 true).bind fun bt409 => (trustquorumref04_normal.j2 k bt409.1 bt409.2.1 bt409.2.2)) else (trustquorumref04_normal.j2 k x382000 x382001 x382002))))
def trustquorumref04_normal.j1 : Nat → List (S27) → Int → Int → Bool → Int → List Int → List (S27) → Int → List Int → List (S27) → Option (Int × List Int × (List (S27)))
 | 0, _, _, _, _, _, _, _, _, _, _ => none
 | k + 1, x15, x16, x17, x42, x382000, x382001, x382002, x392000, x392001, x392002 => if x42 = true then (if 0 < (x392001.length : Int) then (if x382001.length < 17592186044416 then (trustquorumref04_normal.l0 k x15 x16 (wrap64 (x17 + 1)) x382000 (x382001 ++ [rd x392001 0]) x382002) else (none)) else (none)) else (if x382002.length < 2513169434916 then (trustquorumref04_normal.l0 k x15 x16 (wrap64 (x17 + 1)) x382000 x382001 (x382002 ++ [(⟨x392000, x392001, x392002⟩ : S27)])) else (none))
def trustquorumref04_normal.j2 : Nat → Int → List Int → List (S27) → Option (Int × List Int × (List (S27)))
 | 0, _, _, _ => none
 | k + 1, x382000, x382001, x382002 => (trustquorumref04_sorted.f k x382000 x382001 x382002).bind fun bt416 => (if (bt416.2.1.length : Int) = 0 then (trustquorumref04_normal.j3 k ((bt416.2.2.length : Int) == 1) bt416.1 bt416.2.1 bt416.2.2) else (trustquorumref04_normal.j3 k false bt416.1 bt416.2.1 bt416.2.2))
def trustquorumref04_normal.j3 : Nat → Bool → Int → List Int → List (S27) → Option (Int × List Int × (List (S27)))
 | 0, _, _, _, _ => none
 | k + 1, x82, x382000, x382001, x382002 => if x82 = true then (if 0 < (x382002.length : Int) then (some ((rd_T27 x382002 0).f0, (rd_T27 x382002 0).f1, (rd_T27 x382002 0).f2)) else (none)) else (some (x382000, x382001, x382002))
def trustquorumref04_normal.f : Nat → Int → List Int → List (S27) → Option (Int × List Int × (List (S27)))
 | 0, _, _, _ => none
 | k + 1, a0_0, l0_1, l0_2 => (some (([] : List Int) : List Int)).bind fun y375 => (if y375.length + l0_1.length < 17592186044416 then (trustquorumref04_normal.l0 k l0_2 (l0_2.length : Int) 0 a0_0 (y375 ++ l0_1) ([] : List (S27))) else (none))
end
def trustquorumref04_normal.T1 : Bool × List (List Nat × List Nat) := (true, [([], []), ([0], [0]), ([], []), ([], []), ([3], [3]), ([2, 4], [2, 4]), ([1, 5], [1, 5]), ([], []), ([7, 6, 5, 0, 1, 2, 3, 4, 5, 6, 7], [6, 7])])
def trustquorumref04_normal.B1 : List Nat := [0, 1, 0, 0, 8, 28, 63, 0, 255]
theorem trustquorumref04_normal.tab1 : rtab .any (opsOf Try.f31 1) = trustquorumref04_normal.T1 := by kernel_rfl
theorem trustquorumref04_normal.bits1 : waitsOk trustquorumref04_normal.T1.2 trustquorumref04_normal.B1 = true := by kernel_rfl
def trustquorumref04_normal.T6 : Bool × List (List Nat × List Nat) := (true, [([], []), ([0], [0]), ([1], [1]), ([2], [2]), ([3], [3]), ([4], [4]), ([5, 4], [4, 5]), ([6, 4], [4, 6]), ([7, 4], [4, 7]), ([4, 8], [4, 8]), ([9, 4], [9]), ([10], [10]), ([11, 10], [10, 11]), ([10], [10]), ([13, 10], [10, 13]), ([14, 10], [10, 14]), ([15, 10], [10, 15]), ([12, 16, 10, 10], [10, 12, 16]), ([17, 10], [10, 17]), ([10, 18], [10, 18])])
def trustquorumref04_normal.B6 : List Nat := [0, 1, 3, 7, 15, 31, 63, 127, 255, 511, 1023, 2047, 4095, 2047, 10239, 26623, 59391, 131071, 262143, 524287]
theorem trustquorumref04_normal.tab6 : rtab .any (opsOf Try.f31 6) = trustquorumref04_normal.T6 := by kernel_rfl
theorem trustquorumref04_normal.bits6 : waitsOk trustquorumref04_normal.T6.2 trustquorumref04_normal.B6 = true := by kernel_rfl
def trustquorumref04_normal.T7 : Bool × List (List Nat × List Nat) := (true, [([], []), ([0], [0]), ([], []), ([2], [2]), ([3], [3]), ([4], [4]), ([5], [5]), ([1, 6], [1, 6]), ([0, 1, 2, 3, 4, 5, 6, 7], []), ([8, 7, 7, 0, 1, 2, 3, 4, 5, 6, 7], [7, 8])])
def trustquorumref04_normal.B7 : List Nat := [0, 1, 0, 4, 12, 28, 60, 127, 255, 511]
theorem trustquorumref04_normal.tab7 : rtab .any (opsOf Try.f31 7) = trustquorumref04_normal.T7 := by kernel_rfl
theorem trustquorumref04_normal.bits7 : waitsOk trustquorumref04_normal.T7.2 trustquorumref04_normal.B7 = true := by kernel_rfl
set_option maxHeartbeats 8000000 in
set_option maxRecDepth 100000 in
theorem trustquorumref04_normal.calls (k : Nat) : ∀ (a0_0 : Int) (A0_1 : Option Addr) (c0_1 : Nat) (l0_1 : List Int) (A0_2 : Option Addr) (c0_2 : Nat) (l0_2 : List (S27)) (r1 : Int) (r2 : List Int) (r3 : List (S27)) (w : World) (hr0_1 : Kd.C (Kd.int .i64) w A0_1 l0_1.length l0_1) (hc0_1 : l0_1.length ≤ c0_1) (hr0_2 : Kd.C k27 w A0_2 l0_2.length l0_2) (hc0_2 : l0_2.length ≤ c0_2) (h : trustquorumref04_normal.f k a0_0 l0_1 l0_2 = some (r1, r2, r3)),
 Calls Try.prog 31 #[.agg #[.int .i64 a0_0, .slice A0_1 l0_1.length c0_1, .slice A0_2 l0_2.length c0_2]] w fun e w' => ∃ v1_ v2_ : Value, e = .returned (.agg #[.int .i64 r1, v1_, v2_]) ∧ Kd.V (Kd.int .i64) 3 w' w.heap.size (fun k_ => (w.heap.size ≤ k_)) v1_ r2 ∧ Kd.V k27 27 w' w.heap.size (fun k_ => (w.heap.size ≤ k_)) v2_ r3 ∧ Below w.heap.size w w' := by
 induction k using Nat.strongRecOn with
 | _ k ih =>
 intro a0_0 A0_1 c0_1 l0_1 A0_2 c0_2 l0_2 r1 r2 r3 w hr0_1 hc0_1 hr0_2 hc0_2 h
 cases k with
 | zero => exact absurd h (by simp [trustquorumref04_normal.f])
 | succ k =>
 simp only [trustquorumref04_normal.f] at h
 have hu27 := Try.underlying27
 have HR0_1 := Aside0.mk hr0_1
 have HC0_1 := Aside0.mk hc0_1
 clear hr0_1 hc0_1
 have HR0_2 := Aside0.mk hr0_2
 have HC0_2 := Aside0.mk hc0_2
 clear hr0_2 hc0_2
 have HB := Aside0.mk (Below.refl w.heap.size w)
 have H : ((some (([] : List Int) : List Int)).bind fun y375 => (if y375.length + l0_1.length < 17592186044416 then (trustquorumref04_normal.l0 k l0_2 (l0_2.length : Int) 0 a0_0 (y375 ++ l0_1) ([] : List (S27))) else (none))) = some (r1, r2, r3) := h
 clear h
 obtain ⟨y375, hy375⟩ : ∃ y_ : List Int, y_ = (([] : List Int)) := ⟨_, rfl⟩
 replace H : (if y375.length + l0_1.length < 17592186044416 then (trustquorumref04_normal.l0 k l0_2 (l0_2.length : Int) 0 a0_0 (y375 ++ l0_1) ([] : List (S27))) else (none)) = some (r1, r2, r3) := by first | (rw [hy375]; with_reducible exact H) | (have H2_ := (Option.bind_some _ _).symm.trans H; rw [hy375]; with_reducible exact H2_) | (have H2_ := (Option.bind_some _ _).symm.trans H; with_reducible exact H2_) | with_reducible exact H | (rw [hy375]; exact H) | exact H
 have Ny375 := Aside0.mk hy375
 clear hy375
 by_cases c2 : y375.length + l0_1.length < 17592186044416
 ·rw [if_pos c2] at H
  have LMc2 := Aside0.mk c2
  clear c2
  obtain ⟨y378, hy378⟩ : ∃ y_ : List Int, y_ = (y375 ++ l0_1) := ⟨_, rfl⟩
  replace H : (trustquorumref04_normal.l0 k l0_2 (l0_2.length : Int) 0 a0_0 y378 ([] : List (S27))) = some (r1, r2, r3) := by first | (rw [hy378]; with_reducible exact H) | (have H2_ := (Option.bind_some _ _).symm.trans H; rw [hy378]; with_reducible exact H2_) | (have H2_ := (Option.bind_some _ _).symm.trans H; with_reducible exact H2_) | with_reducible exact H | (rw [hy378]; exact H) | exact H
  have Ny378 := Aside0.mk hy378
  clear hy378
  have H' := Aside0.mk H
  clear H
  go_enter Try.func31, Try.ntmps31
  try go_wp2_with (first | ((with_reducible refine gate_dst (N := 1) rfl ?_); (try (refine gate_guard (by rfl) ?_; dsimp only)); refine box_event ?hg (N := 1) ?hd (cs := #[.int .i64 a0_0, .slice A0_1 l0_1.length c0_1, .slice A0_2 l0_2.length c0_2]) (t := 27) ?hr ?_; (case hd => rfl); (case hg => rfl); (case hr => first | (go_simp; done) | (go_simp; rfl)); intro gb373 hg w3 hbox hb; have BK373 := Aside0.mk (hbox); have GW373 := Aside0.mk ((by rw [hg]; exact (below_size (bB HB)) : w.heap.size ≤ gb373)); have GE373 := Aside0.mk ((by rw [hg]; exact (below_size (bB HB)) : w.heap.size ≤ gb373)); replace HB := bs HB hb; clear hb hbox hg) | ((with_reducible refine gate_dst (N := 2) rfl ?_); (try (refine gate_guard (by rfl) ?_; dsimp only)); refine box_event ?hg (N := 2) ?hd (cs := #[.int .i64 0, .slice none 0 0, .slice none 0 0]) (t := 27) ?hr ?_; (case hd => rfl); (case hg => rfl); (case hr => first | (go_simp; done) | (go_simp; rfl)); intro gb374 hg w4 hbox hb; have BK374 := Aside0.mk (hbox); have GW374 := Aside0.mk ((by rw [hg]; exact (below_size (bB HB)) : w.heap.size ≤ gb374)); have GE374 := Aside0.mk ((by rw [hg]; exact (below_size (bB HB)) : w.heap.size ≤ gb374)); replace HB := bs HB hb; have NB373_374 := Aside0.mk ((by rw [hg]; exact Nat.ne_of_lt (blk_lt (bU BK373)) : gb373 ≠ gb374)); have NB374_373 := Aside0.mk ((by rw [hg]; exact Nat.ne_of_gt (blk_lt (bU BK373)) : gb374 ≠ gb373)); replace BK373 := bb BK373 hb; clear hb hbox hg))
  replace BK373 := Aside0.mk (blk_drew BK373.out)
  replace BK374 := Aside0.mk (blk_drew BK374.out)
  replace HB := Aside0.mk (below_drew1 HB.out)
  refine start_ (n := 9) (S := fun w' => w'.cell? ⟨gb373, 0, none⟩ = some (.int .i64 a0_0) ∧ w'.cell? ⟨gb373, 1, none⟩ = some (.slice A0_1 l0_1.length c0_1) ∧ w'.cell? ⟨gb373, 2, none⟩ = some (.slice A0_2 l0_2.length c0_2)) (ds := []) #[false, false, false, false, false, false, false, false, false] (by kernel_rfl) rfl rfl ⟨bC0 BK373, bC1 BK373, bC2 BK373⟩ (fun hHeld => ?_); refine with_tabW trustquorumref04_normal.tab1 trustquorumref04_normal.bits1 (fun HT_ HW_ => ?_)
  generalize w4.drew = w5 at BK373 BK374 HB hHeld ⊢
  refine pureA_ 0 7 HT_ ?_
  refine pureA_ 3 10 HT_ ?_
  refine takeA_ 1 8 HT_ HW_ hHeld ?_
  refine takeA_ 4 11 HT_ HW_ hHeld ?_
  refine join_ (σ := Value × Value × Nat) 1 #[true, true, true, true, true, true, true, true, false] (fun s_ => [(9, s_.1), (12, s_.2.1), (3, .pointer (some ⟨s_.2.2, 0, none⟩)), (13, .agg #[.int .i64 a0_0, s_.2.1, .slice none 0 0])]) (fun s_ w' => (w'.cell? ⟨gb373, 0, none⟩ = some (.int .i64 a0_0) ∧ w'.cell? ⟨gb373, 1, none⟩ = some (.slice A0_1 l0_1.length c0_1) ∧ w'.cell? ⟨gb373, 2, none⟩ = some (.slice A0_2 l0_2.length c0_2)) ∧ (Kd.R (Kd.int .i64) 3 w' w.heap.size (fun k_ => (w.heap.size ≤ k_)) s_.2.1 y378) ∧ (w'.heap[gb373]? = some (.cells #[.int .i64 a0_0, .slice A0_1 l0_1.length c0_1, .slice A0_2 l0_2.length c0_2] 27 (0, 0))) ∧ (w'.heap[gb374]? = some (.cells #[.int .i64 0, .slice none 0 0, .slice none 0 0] 27 (0, 0))) ∧ (w'.heap[s_.2.2]? = some (.cells #[.int .i64 0, .slice none 0 0, .slice none 0 0] 27 (0, 0))) ∧ (w.heap.size ≤ s_.2.2) ∧ (w.heap.size ≤ s_.2.2) ∧ (gb373 ≠ s_.2.2) ∧ (s_.2.2 ≠ gb373) ∧ (gb374 ≠ s_.2.2) ∧ (s_.2.2 ≠ gb374) ∧ (Below w.heap.size w w')) ?_ ?_
  rotate_left
  ·intro hCont
   refine two_ (i := 2) (j := 7) (Ni := some 9) (Nj := some 3) #[true, true, true, true, true, false, false, false, false] #[true, true, false, true, true, false, false, true, false] rfl rfl rfl rfl (two_of HT_.out (by kernel_rfl)) (by decide) (by decide) (fun K hK => ?_) (fun K hK => ?_)
   ·skip
    refine Kd.R_lit_step (Kd.int .i64) _ 3 ?hg (N := 9) ?hd (xs := ([] : List Int)) (inner := []) (ok := fun _ => True) (okp := fun _ => True) ?hr ?hp (fun _ hk => hk) trivial (Below.refl _ _) (Nat.le_refl _) (by simp) ?_; (case hd => rfl); (case hg => rfl); (case hr => first | (go_simp; done) | (go_simp; rfl)); (case hp => exact (Reps.none _ _))
    intro v376 w6 ho7 hb hg_ hnew_
    clear hg_ hnew_
    (first | rw [← Ny375.out] at ho7 | (simp only [Int.reduceToNat] at ho7; rw [← Ny375.out] at ho7))
    have HO377 := Aside0.mk (Kd.R_lower (Kd.R_newM (M := fun k_ => (w.heap.size ≤ k_)) ho7 (below_size (bB HB)) (fun k_ h_ => h_)) (below_size (bB HB)))
    replace BK373 := bb BK373 hb
    replace BK374 := bb BK374 hb
    replace HB := bs HB hb
    clear hb ho7
    refine hK.out _ _ ⟨bC0 BK373, bC1 BK373, bC2 BK373⟩ (fun hHeld => ?_)
    clear hK K
    refine normA_ ?_
    refine two_ (i := 5) (j := 7) (Ni := some 12) (Nj := some 3) #[true, true, true, true, true, true, false, false, false] #[true, true, true, true, true, false, false, true, false] rfl rfl rfl rfl (two_of HT_.out (by kernel_rfl)) (by decide) (by decide) (fun K hK => ?_) (fun K hK => ?_)
    ·skip
     refine Kd.R_append_rows_step (Kd.int .i64) (w0 := w) w.heap.size (by rfl) (.tmp 9) (.tmp 11) 22 3 (.int .i64 0) 8 rfl Try.underlying22 info3 rfl (by decide) (by omega) v376 y375 l0_1 _ _ _ (fun k_ => (w.heap.size ≤ k_)) (fun _ => False) rfl rfl ?aO ?aR (fun _ _ h => h) (fun _ h => h.elim) ?aF ?aB ?aS ?aL ?_
     (case aR => exact Kd.uC (Kd.C_below HR0_1.out HB.out))
     (case aB => exact (bB HB))
     (case aF => exact (fun k_ hk => (Nat.le_trans (below_size (bB HB)) hk)))
     (case aO => exact (by (with_reducible repeat (first | apply Kd.R_alloc | apply Kd.R_drewN | apply Kd.R_drew)); exact Kd.R_mono HO377.out (fun _ hk => hk.1)))
     (case aS => exact (below_size (bB HB)))
     (case aL => have := LMc2.out; omega)
     intro v379 w8 ho hb hg hat
     rw [← Ny378.out] at ho
     replace BK373 := Aside0.mk (blk_grown (bU BK373) hg (Kd.R_ne HO377.out BK373.out (by decide)))
     replace BK374 := Aside0.mk (blk_grown (bU BK374) hg (Kd.R_ne HO377.out BK374.out (by decide)))
     replace HB := Aside0.mk (hb)
     have HO380 := Aside0.mk (ho)
     clear HO377
     clear ho hb hg hat
     obtain ⟨Ao9, co9, eo9⟩ := Kd.R_slice HO380.out
     (first | subst eo9 | (injection eo9 with f1_ f2_ f3_; have f4_ := f1_.symm; have f5_ := f3_.symm; clear f1_ f2_ f3_; subst f4_; subst f5_))
     refine hK.out _ _ ⟨bC0 BK373, bC1 BK373, bC2 BK373⟩ (fun hHeld => ?_)
     clear hK K
     refine normA_ ?_
     refine pureA_ 6 13 HT_ ?_
     refine one_ (i := 7) (N := some 3) #[true, true, true, true, true, true, true, true, false] rfl rfl (one_of HT_.out (by kernel_rfl)) (by decide) (fun K hK => ?_)
     refine box_step ?hg (N := 3) ?hd (cs := #[.int .i64 0, .slice none 0 0, .slice none 0 0]) (t := 27) ?hr ?_; (case hd => rfl); (case hg => rfl); (case hr => first | (go_simp; done) | (go_simp; rfl))
     intro gb381 hg w10 hbox hb
     replace HO380 := Kd.bR HO380 hb
     have BK381 := Aside0.mk (hbox)
     have GW381 := Aside0.mk ((by rw [hg]; exact (below_size (bB HB)) : w.heap.size ≤ gb381))
     have GE381 := Aside0.mk ((by rw [hg]; exact (below_size (bB HB)) : w.heap.size ≤ gb381))
     replace HB := bs HB hb
     have NB373_381 := Aside0.mk ((by rw [hg]; exact Nat.ne_of_lt (blk_lt (bU BK373)) : gb373 ≠ gb381))
     have NB381_373 := Aside0.mk ((by rw [hg]; exact Nat.ne_of_gt (blk_lt (bU BK373)) : gb381 ≠ gb373))
     replace BK373 := bb BK373 hb
     have NB374_381 := Aside0.mk ((by rw [hg]; exact Nat.ne_of_lt (blk_lt (bU BK374)) : gb374 ≠ gb381))
     have NB381_374 := Aside0.mk ((by rw [hg]; exact Nat.ne_of_gt (blk_lt (bU BK374)) : gb381 ≠ gb374))
     replace BK374 := bb BK374 hb
     clear hb hbox hg
     refine hK.out _ _ ⟨bC0 BK373, bC1 BK373, bC2 BK373⟩ (fun hHeld => ?_)
     clear hK K
     refine normA_ ?_
     exact norm_ (by simp only [putAll, Act.put, List.setIfInBounds_toArray, List.set_cons_zero, List.set_cons_succ]) (hCont (v376, .slice Ao9 y378.length co9, gb381) _ ⟨hHeld, (Kd.uR HO380), (bU BK373), (bU BK374), (bU BK381), GW381.out, GE381.out, NB373_381.out, NB381_373.out, NB374_381.out, NB381_374.out, (bB HB)⟩)
    ·skip
     refine box_step ?hg (N := 3) ?hd (cs := #[.int .i64 0, .slice none 0 0, .slice none 0 0]) (t := 27) ?hr ?_; (case hd => rfl); (case hg => rfl); (case hr => first | (go_simp; done) | (go_simp; rfl))
     intro gb381 hg w8 hbox hb
     replace HO377 := Kd.bR HO377 hb
     have BK381 := Aside0.mk (hbox)
     have GW381 := Aside0.mk ((by rw [hg]; exact (below_size (bB HB)) : w.heap.size ≤ gb381))
     have GE381 := Aside0.mk ((by rw [hg]; exact (below_size (bB HB)) : w.heap.size ≤ gb381))
     replace HB := bs HB hb
     have NB373_381 := Aside0.mk ((by rw [hg]; exact Nat.ne_of_lt (blk_lt (bU BK373)) : gb373 ≠ gb381))
     have NB381_373 := Aside0.mk ((by rw [hg]; exact Nat.ne_of_gt (blk_lt (bU BK373)) : gb381 ≠ gb373))
     replace BK373 := bb BK373 hb
     have NB374_381 := Aside0.mk ((by rw [hg]; exact Nat.ne_of_lt (blk_lt (bU BK374)) : gb374 ≠ gb381))
     have NB381_374 := Aside0.mk ((by rw [hg]; exact Nat.ne_of_gt (blk_lt (bU BK374)) : gb381 ≠ gb374))
     replace BK374 := bb BK374 hb
     clear hb hbox hg
     refine hK.out _ _ ⟨bC0 BK373, bC1 BK373, bC2 BK373⟩ (fun hHeld => ?_)
     clear hK K
     refine normA_ ?_
     refine one_ (i := 5) (N := some 12) #[true, true, true, true, true, true, false, true, false] rfl rfl (one_of HT_.out (by kernel_rfl)) (by decide) (fun K hK => ?_)
     refine Kd.R_append_rows_step (Kd.int .i64) (w0 := w) w.heap.size (by rfl) (.tmp 9) (.tmp 11) 22 3 (.int .i64 0) 8 rfl Try.underlying22 info3 rfl (by decide) (by omega) v376 y375 l0_1 _ _ _ (fun k_ => (w.heap.size ≤ k_)) (fun _ => False) rfl rfl ?aO ?aR (fun _ _ h => h) (fun _ h => h.elim) ?aF ?aB ?aS ?aL ?_
     (case aR => exact Kd.uC (Kd.C_below HR0_1.out HB.out))
     (case aB => exact (bB HB))
     (case aF => exact (fun k_ hk => (Nat.le_trans (below_size (bB HB)) hk)))
     (case aO => exact (by (with_reducible repeat (first | apply Kd.R_alloc | apply Kd.R_drewN | apply Kd.R_drew)); exact Kd.R_mono HO377.out (fun _ hk => hk.1)))
     (case aS => exact (below_size (bB HB)))
     (case aL => have := LMc2.out; omega)
     intro v379 w9 ho hb hg hat
     rw [← Ny378.out] at ho
     replace BK373 := Aside0.mk (blk_grown (bU BK373) hg (Kd.R_ne HO377.out BK373.out (by decide)))
     replace BK374 := Aside0.mk (blk_grown (bU BK374) hg (Kd.R_ne HO377.out BK374.out (by decide)))
     replace BK381 := Aside0.mk (blk_grown (bU BK381) hg (Kd.R_ne HO377.out BK381.out (by decide)))
     replace HB := Aside0.mk (hb)
     have HO380 := Aside0.mk (ho)
     clear HO377
     clear ho hb hg hat
     obtain ⟨Ao10, co10, eo10⟩ := Kd.R_slice HO380.out
     (first | subst eo10 | (injection eo10 with f1_ f2_ f3_; have f4_ := f1_.symm; have f5_ := f3_.symm; clear f1_ f2_ f3_; subst f4_; subst f5_))
     refine hK.out _ _ ⟨bC0 BK373, bC1 BK373, bC2 BK373⟩ (fun hHeld => ?_)
     clear hK K
     refine normA_ ?_
     refine pureA_ 6 13 HT_ ?_
     exact norm_ (by simp only [putAll, Act.put, List.setIfInBounds_toArray, List.set_cons_zero, List.set_cons_succ]) (hCont (v376, .slice Ao10 y378.length co10, gb381) _ ⟨hHeld, (Kd.uR HO380), (bU BK373), (bU BK374), (bU BK381), GW381.out, GE381.out, NB373_381.out, NB381_373.out, NB374_381.out, NB381_374.out, (bB HB)⟩)
   ·skip
    refine box_step ?hg (N := 3) ?hd (cs := #[.int .i64 0, .slice none 0 0, .slice none 0 0]) (t := 27) ?hr ?_; (case hd => rfl); (case hg => rfl); (case hr => first | (go_simp; done) | (go_simp; rfl))
    intro gb381 hg w6 hbox hb
    have BK381 := Aside0.mk (hbox)
    have GW381 := Aside0.mk ((by rw [hg]; exact (below_size (bB HB)) : w.heap.size ≤ gb381))
    have GE381 := Aside0.mk ((by rw [hg]; exact (below_size (bB HB)) : w.heap.size ≤ gb381))
    replace HB := bs HB hb
    have NB373_381 := Aside0.mk ((by rw [hg]; exact Nat.ne_of_lt (blk_lt (bU BK373)) : gb373 ≠ gb381))
    have NB381_373 := Aside0.mk ((by rw [hg]; exact Nat.ne_of_gt (blk_lt (bU BK373)) : gb381 ≠ gb373))
    replace BK373 := bb BK373 hb
    have NB374_381 := Aside0.mk ((by rw [hg]; exact Nat.ne_of_lt (blk_lt (bU BK374)) : gb374 ≠ gb381))
    have NB381_374 := Aside0.mk ((by rw [hg]; exact Nat.ne_of_gt (blk_lt (bU BK374)) : gb381 ≠ gb374))
    replace BK374 := bb BK374 hb
    clear hb hbox hg
    refine hK.out _ _ ⟨bC0 BK373, bC1 BK373, bC2 BK373⟩ (fun hHeld => ?_)
    clear hK K
    refine normA_ ?_
    refine one_ (i := 2) (N := some 9) #[true, true, true, true, true, false, false, true, false] rfl rfl (one_of HT_.out (by kernel_rfl)) (by decide) (fun K hK => ?_)
    refine Kd.R_lit_step (Kd.int .i64) _ 3 ?hg (N := 9) ?hd (xs := ([] : List Int)) (inner := []) (ok := fun _ => True) (okp := fun _ => True) ?hr ?hp (fun _ hk => hk) trivial (Below.refl _ _) (Nat.le_refl _) (by simp) ?_; (case hd => rfl); (case hg => rfl); (case hr => first | (go_simp; done) | (go_simp; rfl)); (case hp => exact (Reps.none _ _))
    intro v376 w7 ho8 hb hg_ hnew_
    clear hg_ hnew_
    (first | rw [← Ny375.out] at ho8 | (simp only [Int.reduceToNat] at ho8; rw [← Ny375.out] at ho8))
    have HO377 := Aside0.mk (Kd.R_lower (Kd.R_newM (M := fun k_ => (w.heap.size ≤ k_)) ho8 (below_size (bB HB)) (fun k_ h_ => h_)) (below_size (bB HB)))
    replace BK373 := bb BK373 hb
    replace BK374 := bb BK374 hb
    replace BK381 := bb BK381 hb
    replace HB := bs HB hb
    clear hb ho8
    refine hK.out _ _ ⟨bC0 BK373, bC1 BK373, bC2 BK373⟩ (fun hHeld => ?_)
    clear hK K
    refine normA_ ?_
    refine one_ (i := 5) (N := some 12) #[true, true, true, true, true, true, false, true, false] rfl rfl (one_of HT_.out (by kernel_rfl)) (by decide) (fun K hK => ?_)
    refine Kd.R_append_rows_step (Kd.int .i64) (w0 := w) w.heap.size (by rfl) (.tmp 9) (.tmp 11) 22 3 (.int .i64 0) 8 rfl Try.underlying22 info3 rfl (by decide) (by omega) v376 y375 l0_1 _ _ _ (fun k_ => (w.heap.size ≤ k_)) (fun _ => False) rfl rfl ?aO ?aR (fun _ _ h => h) (fun _ h => h.elim) ?aF ?aB ?aS ?aL ?_
    (case aR => exact Kd.uC (Kd.C_below HR0_1.out HB.out))
    (case aB => exact (bB HB))
    (case aF => exact (fun k_ hk => (Nat.le_trans (below_size (bB HB)) hk)))
    (case aO => exact (by (with_reducible repeat (first | apply Kd.R_alloc | apply Kd.R_drewN | apply Kd.R_drew)); exact Kd.R_mono HO377.out (fun _ hk => hk.1)))
    (case aS => exact (below_size (bB HB)))
    (case aL => have := LMc2.out; omega)
    intro v379 w9 ho hb hg hat
    rw [← Ny378.out] at ho
    replace BK373 := Aside0.mk (blk_grown (bU BK373) hg (Kd.R_ne HO377.out BK373.out (by decide)))
    replace BK374 := Aside0.mk (blk_grown (bU BK374) hg (Kd.R_ne HO377.out BK374.out (by decide)))
    replace BK381 := Aside0.mk (blk_grown (bU BK381) hg (Kd.R_ne HO377.out BK381.out (by decide)))
    replace HB := Aside0.mk (hb)
    have HO380 := Aside0.mk (ho)
    clear HO377
    clear ho hb hg hat
    obtain ⟨Ao10, co10, eo10⟩ := Kd.R_slice HO380.out
    (first | subst eo10 | (injection eo10 with f1_ f2_ f3_; have f4_ := f1_.symm; have f5_ := f3_.symm; clear f1_ f2_ f3_; subst f4_; subst f5_))
    refine hK.out _ _ ⟨bC0 BK373, bC1 BK373, bC2 BK373⟩ (fun hHeld => ?_)
    clear hK K
    refine normA_ ?_
    refine pureA_ 6 13 HT_ ?_
    exact norm_ (by simp only [putAll, Act.put, List.setIfInBounds_toArray, List.set_cons_zero, List.set_cons_succ]) (hCont (v376, .slice Ao10 y378.length co10, gb381) _ ⟨hHeld, (Kd.uR HO380), (bU BK373), (bU BK374), (bU BK381), GW381.out, GE381.out, NB373_381.out, NB381_373.out, NB374_381.out, NB381_374.out, (bB HB)⟩)
  rintro ⟨v376, v379, gb381⟩ w11 ⟨hS_, h0_, h1_, h2_, h3_, h4_, h5_, h6_, h7_, h8_, h9_, h10_⟩
  have HO380 := Aside0.mk h0_
  replace BK373 := Aside0.mk h1_
  replace BK374 := Aside0.mk h2_
  have BK381 := Aside0.mk h3_
  have GW381 := Aside0.mk h4_
  have GE381 := Aside0.mk h5_
  have NB373_381 := Aside0.mk h6_
  have NB381_373 := Aside0.mk h7_
  have NB374_381 := Aside0.mk h8_
  have NB381_374 := Aside0.mk h9_
  replace HB := Aside0.mk h10_
  clear h0_ h1_ h2_ h3_ h4_ h5_ h6_ h7_ h8_ h9_ h10_
  have hHeld : w11.cell? ⟨gb373, 0, none⟩ = some (.int .i64 a0_0) ∧ w11.cell? ⟨gb373, 1, none⟩ = some (.slice A0_1 l0_1.length c0_1) ∧ w11.cell? ⟨gb373, 2, none⟩ = some (.slice A0_2 l0_2.length c0_2) := hS_
  obtain ⟨Ao12, co12, eo12⟩ := Kd.R_slice HO380.out
  (first | subst eo12 | (injection eo12 with f1_ f2_ f3_; have f4_ := f1_.symm; have f5_ := f3_.symm; clear f1_ f2_ f3_; subst f4_; subst f5_))
  refine norm_ (a' := ?_) ?_ ?_
  rotate_left
  ·simp only [putAll, Act.put, List.setIfInBounds_toArray, List.set_cons_zero, List.set_cons_succ]
   rfl
  refine one_ (i := 8) (N := none) #[true, true, true, true, true, true, true, true, true] rfl rfl (one_of HT_.out (by kernel_rfl)) (by decide) (fun K hK => ?_)
  have hs13 := bC0 BK381
  have hfs13 := blk_frozen BK381.out 0
  have hns13_0 := NB373_381.out
  have hns13_1 := NB374_381.out
  have hms13_0 := NB381_373.out
  have hms13_1 := NB381_374.out
  have hs14 := bC1 BK381
  have hfs14 := blk_frozen BK381.out 1
  have hns14_0 := NB373_381.out
  have hns14_1 := NB374_381.out
  have hms14_0 := NB381_373.out
  have hms14_1 := NB381_374.out
  have hs15 := bC2 BK381
  have hfs15 := blk_frozen BK381.out 2
  have hns15_0 := NB373_381.out
  have hns15_1 := NB374_381.out
  have hms15_0 := NB381_373.out
  have hms15_1 := NB381_374.out
  refine skip_ (w1 := ?_) (by rfl) rfl ?_ ?_
  rotate_left
  ·go_simp
   rfl
  refine hK.out _ _ ⟨((cell_far (p := ⟨gb381, _, none⟩) NB373_381.out _).trans (((cell_far (p := ⟨gb381, _, none⟩) NB373_381.out _).trans (((cell_far (p := ⟨gb381, _, none⟩) NB373_381.out _).trans (hHeld.1)))))), ((cell_far (p := ⟨gb381, _, none⟩) NB373_381.out _).trans (((cell_far (p := ⟨gb381, _, none⟩) NB373_381.out _).trans (((cell_far (p := ⟨gb381, _, none⟩) NB373_381.out _).trans (hHeld.2.1)))))), ((cell_far (p := ⟨gb381, _, none⟩) NB373_381.out _).trans (((cell_far (p := ⟨gb381, _, none⟩) NB373_381.out _).trans (((cell_far (p := ⟨gb381, _, none⟩) NB373_381.out _).trans (hHeld.2.2))))))⟩ (fun hHeld => ?_)
  clear hK K
  refine done_ (done_of HT_.out (by kernel_rfl)) ?_
  have hnb16 := NB373_374.out
  have hnc16 := NB374_373.out
  have hnb17 := NB373_381.out
  have hnc17 := NB381_373.out
  have hcz18_0 := bC0 BK373
  have hcz18_1 := bC1 BK373
  have hcz18_2 := bC2 BK373
  have hfz18_0 := blk_frozen BK373.out 0
  have hfz18_1 := blk_frozen BK373.out 1
  have hfz18_2 := blk_frozen BK373.out 2
  try go_wp2
  go_loopg [17] k (fun kq v17 w' => ∃ (x17_1 : Int) (x382001_1 : List Int) (x382002_1 : List (S27)) (u382001 : Value) (u382002 : Value), v17 = .int .i64 x17_1 ∧ Aside0 (trustquorumref04_normal.l0 kq l0_2 (l0_2.length : Int) x17_1 a0_0 x382001_1 x382002_1 = some (r1, r2, r3)) ∧ Aside0 (kq ≤ k) ∧ Aside0 (Kd.R (Kd.int .i64) 3 w' w.heap.size (fun k_ => (w.heap.size ≤ k_)) u382001 x382001_1) ∧ Aside0 (Kd.N k27 27 w' w.heap.size (fun k_ => (w.heap.size ≤ k_) ∧ some k_ ≠ (u382001 : Value).ownBlock ∧ k_ ≠ gb373 ∧ k_ ≠ gb374 ∧ k_ ≠ gb381) u382002 x382002_1) ∧ Aside0 (w'.heap[gb373]? = some (.cells #[.int .i64 a0_0, (.slice A0_1 l0_1.length c0_1), (.slice A0_2 l0_2.length c0_2)] 27 (0, 0))) ∧ Aside0 (w'.heap[gb374]? = some (.cells #[.int .i64 0, (.slice none 0 0), (.slice none 0 0)] 27 (0, 0))) ∧ Aside0 (w'.heap[gb381]? = some (.cells #[.int .i64 a0_0, u382001, u382002] 27 (0, 0))) ∧ Aside0 (Below w.heap.size w w'))
  case atStart => exact ⟨(0), (y378), (([] : List (S27))), (.slice Ao12 y378.length co12), (.slice none 0 0), (by first | rfl | (simp; done) | (simp [*]; done)), H', ⟨Nat.le_refl _⟩, ⟨by (with_reducible repeat (first | apply Kd.R_alloc | apply Kd.R_drewN | apply Kd.R_drew)); exact Kd.R_ft3 (Kd.R_types HO380.out BK381.out (by decide))⟩, ⟨by first | exact Kd.R_nil _ _ _ _ _ | exact Kd.N_nil _ _ _ _ _ | exact Kd.V_nil _ _ _ _ _ | exact Kd.Q_nil _ _ _ _ _ | exact Kd.S_nil _ _ _ _ _⟩, ⟨bF BK373⟩, ⟨bF BK374⟩, ⟨bP3 BK381⟩, ⟨bB HB⟩⟩
  case round =>
   clear H'
   try clear c1
   try clear c2
   try clear p2
   try clear c3
   try clear c16
   try clear c17
   try clear hcz18_0
   try clear hcz18_1
   try clear hcz18_2
   try clear hfz18_0
   try clear hfz18_1
   try clear hfz18_2
   obtain ⟨x17_1, x382001_1, x382002_1, u382001, u382002, rfl, HA, HK1, HO_382001, HO_382002, BK373, BK374, BK381, HB⟩ := hrel
   cases gk with
   | zero => exact absurd HA.out (by simp [trustquorumref04_normal.l0])
   | succ k1 =>
    have H := HA.out
    clear HA
    simp only [trustquorumref04_normal.l0] at H
    by_cases c19 : x17_1 < (l0_2.length : Int)
    ·rw [if_pos c19] at H
     have c19b0 : decide (x17_1 < (l0_2.length : Int)) = true := decide_eq_true c19
     clear c19
     by_cases c20 : 0 ≤ x17_1
     ·rw [if_pos c20] at H
      have c20b0 : decide (0 ≤ x17_1) = true := decide_eq_true c20
      clear c20
      by_cases c21 : x17_1 < (l0_2.length : Int)
      ·rw [if_pos c21] at H
       have c21b0 : decide (x17_1 < (l0_2.length : Int)) = true := decide_eq_true c21
       clear c21
       replace H := Option.bind_eq_some_iff.mp H
       obtain ⟨⟨t384, t385, t388⟩, A220, H⟩ := H
       replace H : (if (t385.length : Int) = 1 then (if (t388.length : Int) = 0 then (if 0 < (t385.length : Int) then ((trustquorumref04_has.f k1 x382001_1 (rd t385 0)).bind fun t393 => (trustquorumref04_normal.j1 k1 l0_2 (l0_2.length : Int) x17_1 (!t393) a0_0 x382001_1 x382002_1 t384 t385 t388)) else (none)) else (trustquorumref04_normal.j1 k1 l0_2 (l0_2.length : Int) x17_1 false a0_0 x382001_1 x382002_1 t384 t385 t388)) else (trustquorumref04_normal.j1 k1 l0_2 (l0_2.length : Int) x17_1 false a0_0 x382001_1 x382002_1 t384 t385 t388)) = some (r1, r2, r3) := H
       have A22 := Aside0.mk A220
       clear A220
       have HC23 := Aside0.mk H
       clear H
       have p382 : 0 ≤ (x17_1 : Int) := of_decide_eq_true (by first | (with_reducible assumption) | assumption)
       have q382 : x17_1 < (l0_2.length : Int) := of_decide_eq_true (by first | (with_reducible assumption) | assumption)
       obtain ⟨ad382, A382_1, c382_1, A382_2, c382_2, e382, hx382_0, hx382_1, hx382_2, hl382_1, hi382_1, hl382_2, hi382_2⟩ := at_T27 HR0_2.out x17_1 p382 q382
       cases e382
       replace hx382_0 := (HB.out.cell (World.block_lt_of_cell? w _ hx382_0)).trans hx382_0
       replace hx382_1 := (HB.out.cell (World.block_lt_of_cell? w _ hx382_1)).trans hx382_1
       replace hx382_2 := (HB.out.cell (World.block_lt_of_cell? w _ hx382_2)).trans hx382_2
       have HR382_1 := Aside0.mk hi382_1
       have HC382_1 := Aside0.mk hl382_1
       clear hi382_1 hl382_1
       have HR382_2 := Aside0.mk hi382_2
       have HC382_2 := Aside0.mk hl382_2
       clear hi382_2 hl382_2
       replace p382 := eq_true p382
       replace q382 := eq_true q382
       go_upto_region 6 with (first | ((with_reducible refine gate_dst (N := 5) rfl ?_); (try (refine gate_guard (by rfl) ?_; dsimp only)); refine box_event ?hg (N := 5) ?hd (cs := #[.int .i64 0, .slice none 0 0, .slice none 0 0]) (t := 27) ?hr ?_; (case hd => rfl); (case hg => rfl); (case hr => first | (go_simp; done) | (go_simp; rfl)); intro gb383 hg w24 hbox hb; replace HO_382001 := Kd.bR HO_382001 hb; replace HO_382002 := Aside0.mk (Kd.N_below (Kd.N_elderB (Kd.uN HO_382002) gb383 (Nat.le_of_eq hg.symm)) hb); have BK383 := Aside0.mk (hbox); have GW383 := Aside0.mk ((by rw [hg]; exact (below_size (bB HB)) : w.heap.size ≤ gb383)); have GE383 := Aside0.mk ((by rw [hg]; exact (below_size (bB HB)) : w.heap.size ≤ gb383)); replace HB := bs HB hb; have NB373_383 := Aside0.mk ((by rw [hg]; exact Nat.ne_of_lt (blk_lt (bU BK373)) : gb373 ≠ gb383)); have NB383_373 := Aside0.mk ((by rw [hg]; exact Nat.ne_of_gt (blk_lt (bU BK373)) : gb383 ≠ gb373)); replace BK373 := bb BK373 hb; have NB374_383 := Aside0.mk ((by rw [hg]; exact Nat.ne_of_lt (blk_lt (bU BK374)) : gb374 ≠ gb383)); have NB383_374 := Aside0.mk ((by rw [hg]; exact Nat.ne_of_gt (blk_lt (bU BK374)) : gb383 ≠ gb374)); replace BK374 := bb BK374 hb; have NB381_383 := Aside0.mk ((by rw [hg]; exact Nat.ne_of_lt (blk_lt (bU BK381)) : gb381 ≠ gb383)); have NB383_381 := Aside0.mk ((by rw [hg]; exact Nat.ne_of_gt (blk_lt (bU BK381)) : gb383 ≠ gb381)); replace BK381 := bb BK381 hb; clear hb hbox hg; have hnb25 := NB383_373.out; have hnc25 := NB373_383.out; have hnb26 := NB383_374.out; have hnc26 := NB374_383.out; have hnb27 := NB383_381.out; have hnc27 := NB381_383.out; have hcz28_0 := bC0 BK383; have hcz28_1 := bC1 BK383; have hcz28_2 := bC2 BK383; have hfz28_0 := blk_frozen BK383.out 0; have hfz28_1 := blk_frozen BK383.out 1; have hfz28_2 := blk_frozen BK383.out 2) | ((with_reducible refine gate_callee (f := 31) rfl ?_); refine goesA_ (some 22) rfl rfl Try.func31 rfl #[.agg #[.int .i64 ((rd_T27 l0_2 x17_1).f0), .slice A382_1 ((rd_T27 l0_2 x17_1).f1).length c382_1, .slice A382_2 ((rd_T27 l0_2 x17_1).f2).length c382_2]] rfl ?_; (with_reducible refine (ih k1 (by have := HK1.out; omega) ((rd_T27 l0_2 x17_1).f0) _ _ ((rd_T27 l0_2 x17_1).f1) _ _ ((rd_T27 l0_2 x17_1).f2) t384 t385 t388 _ ?side1 ?side2 ?side3 ?side4 A22.out).mono ?_); (case side1 => exact Kd.C_below HR382_1.out (bB HB)); (case side2 => exact HC382_1.out); (case side3 => exact Kd.C_below HR382_2.out (bB HB)); (case side4 => exact HC382_2.out); rintro e w29 ⟨v386, v389, rfl, ho0, ho1, hb⟩; refine ⟨_, rfl, ?_⟩; have HO387 := Aside0.mk (Kd.V_lower (Kd.V_mono (ok' := fun k_ => (w.heap.size ≤ k_) ∧ some k_ ≠ (u382001 : Value).ownBlock ∧ some k_ ≠ (u382002 : Value).ownBlock ∧ k_ ≠ gb373 ∧ k_ ≠ gb374 ∧ k_ ≠ gb381 ∧ k_ ≠ gb383) ho0 (fun k_ hk_ => ⟨(Nat.le_trans (below_size (bB HB)) hk_), (Kd.fresh' (Kd.R_lt (by (with_reducible repeat (first | apply Kd.R_alloc | apply Kd.R_drewN | apply Kd.R_drew)); exact (Kd.R_ft3 (Kd.R_types HO_382001.out BK383.out (by decide))))) k_ hk_), (Kd.fresh' (Kd.N_lt (by (with_reducible repeat (first | apply Kd.N_alloc | apply Kd.N_drewN | apply Kd.N_drew)); exact (Kd.N_fw3 HO_382002.out (fun _ hk => hk.2)))) k_ hk_), (Kd.freshB (g := gb373) (o := .cells #[.int .i64 a0_0, .slice A0_1 l0_1.length c0_1, .slice (some ad382) l0_2.length c0_2] 27 (0, 0)) (bF BK373) k_ hk_), (Kd.freshB (g := gb374) (o := .cells #[.int .i64 0, .slice none 0 0, .slice none 0 0] 27 (0, 0)) (bF BK374) k_ hk_), (Kd.freshB (g := gb381) (o := .cells #[.int .i64 a0_0, u382001, u382002] 27 (0, 0)) (bF BK381) k_ hk_), (Kd.freshB (g := gb383) (o := .cells #[.int .i64 ((rd_T27 l0_2 x17_1).f0), .slice A382_1 ((rd_T27 l0_2 x17_1).f1).length c382_1, .slice A382_2 ((rd_T27 l0_2 x17_1).f2).length c382_2] 27 (0, 0)) (bP3 BK383) k_ hk_)⟩)) (below_size (bB HB))); have HO390 := Aside0.mk (Kd.V_lower (Kd.V_mono (ok' := fun k_ => (w.heap.size ≤ k_) ∧ some k_ ≠ (u382001 : Value).ownBlock ∧ some k_ ≠ (u382002 : Value).ownBlock ∧ k_ ≠ gb373 ∧ k_ ≠ gb374 ∧ k_ ≠ gb381 ∧ k_ ≠ gb383) ho1 (fun k_ hk_ => ⟨(Nat.le_trans (below_size (bB HB)) hk_), (Kd.fresh' (Kd.R_lt (by (with_reducible repeat (first | apply Kd.R_alloc | apply Kd.R_drewN | apply Kd.R_drew)); exact (Kd.R_ft3 (Kd.R_types HO_382001.out BK383.out (by decide))))) k_ hk_), (Kd.fresh' (Kd.N_lt (by (with_reducible repeat (first | apply Kd.N_alloc | apply Kd.N_drewN | apply Kd.N_drew)); exact (Kd.N_fw3 HO_382002.out (fun _ hk => hk.2)))) k_ hk_), (Kd.freshB (g := gb373) (o := .cells #[.int .i64 a0_0, .slice A0_1 l0_1.length c0_1, .slice (some ad382) l0_2.length c0_2] 27 (0, 0)) (bF BK373) k_ hk_), (Kd.freshB (g := gb374) (o := .cells #[.int .i64 0, .slice none 0 0, .slice none 0 0] 27 (0, 0)) (bF BK374) k_ hk_), (Kd.freshB (g := gb381) (o := .cells #[.int .i64 a0_0, u382001, u382002] 27 (0, 0)) (bF BK381) k_ hk_), (Kd.freshB (g := gb383) (o := .cells #[.int .i64 ((rd_T27 l0_2 x17_1).f0), .slice A382_1 ((rd_T27 l0_2 x17_1).f1).length c382_1, .slice A382_2 ((rd_T27 l0_2 x17_1).f2).length c382_2] 27 (0, 0)) (bP3 BK383) k_ hk_)⟩)) (below_size (bB HB))); replace HO_382001 := Aside0.mk (Kd.R_below (by (with_reducible repeat (first | apply Kd.R_alloc | apply Kd.R_drewN | apply Kd.R_drew)); exact (Kd.R_ft3 (Kd.R_types HO_382001.out BK383.out (by decide)))) hb); replace HO_382002 := Aside0.mk (Kd.N_below (by (with_reducible repeat (first | apply Kd.N_alloc | apply Kd.N_drewN | apply Kd.N_drew)); exact (Kd.N_fw3 HO_382002.out (fun _ hk => hk.2))) hb); replace BK373 := Aside0.mk (blk_below (g := gb373) (o := .cells #[.int .i64 a0_0, .slice A0_1 l0_1.length c0_1, .slice (some ad382) l0_2.length c0_2] 27 (0, 0)) (bF BK373) hb); replace BK374 := Aside0.mk (blk_below (g := gb374) (o := .cells #[.int .i64 0, .slice none 0 0, .slice none 0 0] 27 (0, 0)) (bF BK374) hb); replace BK381 := Aside0.mk (blk_below (g := gb381) (o := .cells #[.int .i64 a0_0, u382001, u382002] 27 (0, 0)) (bF BK381) hb); replace BK383 := Aside0.mk (blk_below (g := gb383) (o := .cells #[.int .i64 ((rd_T27 l0_2 x17_1).f0), .slice A382_1 ((rd_T27 l0_2 x17_1).f1).length c382_1, .slice A382_2 ((rd_T27 l0_2 x17_1).f2).length c382_2] 27 (0, 0)) (bP3 BK383) hb); replace HB := bs HB hb; (try clear hb); (try clear hb2); (try clear hk); (try clear hi); (try clear ho0); (try clear ho1)) | ((with_reducible refine gate_dst (N := 6) rfl ?_); (try (refine gate_guard (by rfl) ?_; dsimp only)); refine box_event ?hg (N := 6) ?hd (cs := #[.int .i64 0, .slice none 0 0, .slice none 0 0]) (t := 27) ?hr ?_; (case hd => rfl); (case hg => rfl); (case hr => first | (go_simp; done) | (go_simp; rfl)); intro gb391 hg w30 hbox hb; replace HO_382001 := Kd.bR HO_382001 hb; replace HO_382002 := Aside0.mk (Kd.N_below (Kd.N_elderB (Kd.uN HO_382002) gb391 (Nat.le_of_eq hg.symm)) hb); replace HO387 := Aside0.mk (Kd.V_below (Kd.V_elderB (Kd.uV HO387) gb391 (Nat.le_of_eq hg.symm)) hb); replace HO390 := Aside0.mk (Kd.V_below (Kd.V_elderB (Kd.uV HO390) gb391 (Nat.le_of_eq hg.symm)) hb); have BK391 := Aside0.mk (hbox); have GW391 := Aside0.mk ((by rw [hg]; exact (below_size (bB HB)) : w.heap.size ≤ gb391)); have GE391 := Aside0.mk ((by rw [hg]; exact (below_size (bB HB)) : w.heap.size ≤ gb391)); replace HB := bs HB hb; have NB373_391 := Aside0.mk ((by rw [hg]; exact Nat.ne_of_lt (blk_lt (bU BK373)) : gb373 ≠ gb391)); have NB391_373 := Aside0.mk ((by rw [hg]; exact Nat.ne_of_gt (blk_lt (bU BK373)) : gb391 ≠ gb373)); replace BK373 := bb BK373 hb; have NB374_391 := Aside0.mk ((by rw [hg]; exact Nat.ne_of_lt (blk_lt (bU BK374)) : gb374 ≠ gb391)); have NB391_374 := Aside0.mk ((by rw [hg]; exact Nat.ne_of_gt (blk_lt (bU BK374)) : gb391 ≠ gb374)); replace BK374 := bb BK374 hb; have NB381_391 := Aside0.mk ((by rw [hg]; exact Nat.ne_of_lt (blk_lt (bU BK381)) : gb381 ≠ gb391)); have NB391_381 := Aside0.mk ((by rw [hg]; exact Nat.ne_of_gt (blk_lt (bU BK381)) : gb391 ≠ gb381)); replace BK381 := bb BK381 hb; have NB383_391 := Aside0.mk ((by rw [hg]; exact Nat.ne_of_lt (blk_lt (bU BK383)) : gb383 ≠ gb391)); have NB391_383 := Aside0.mk ((by rw [hg]; exact Nat.ne_of_gt (blk_lt (bU BK383)) : gb391 ≠ gb383)); replace BK383 := bb BK383 hb; clear hb hbox hg; have hnb31 := NB391_373.out; have hnc31 := NB373_391.out; have hnb32 := NB391_374.out; have hnc32 := NB374_391.out; have hnb33 := NB391_381.out; have hnc33 := NB381_391.out; have hnb34 := NB391_383.out; have hnc34 := NB383_391.out; have hcz35_0 := bC0 BK391; have hcz35_1 := bC1 BK391; have hcz35_2 := bC2 BK391; have hfz35_0 := blk_frozen BK391.out 0; have hfz35_1 := blk_frozen BK391.out 1; have hfz35_2 := blk_frozen BK391.out 2; obtain ⟨Ao36, co36, eo36⟩ := Kd.V_slice HO387.out; subst eo36; obtain ⟨Ao37, co37, eo37⟩ := Kd.V_slice HO390.out; subst eo37))
       (try simp only [Act.put, List.setIfInBounds_toArray, List.set_cons_zero, List.set_cons_succ])
       go_cut [42] (fun v42 wc => ∃ (kq : Nat) (x42_22 : Bool), v42 = .bool x42_22 ∧ Aside0 (trustquorumref04_normal.j1 kq l0_2 (l0_2.length : Int) x17_1 x42_22 a0_0 x382001_1 x382002_1 t384 t385 t388 = some (r1, r2, r3)) ∧ Aside0 (kq ≤ k1) ∧ Aside0 (Kd.R (Kd.int .i64) 3 wc w.heap.size (fun k_ => (w.heap.size ≤ k_)) u382001 x382001_1) ∧ Aside0 (Kd.N k27 27 wc w.heap.size (fun k_ => (w.heap.size ≤ k_) ∧ some k_ ≠ (u382001 : Value).ownBlock ∧ k_ ≠ gb373 ∧ k_ ≠ gb374 ∧ k_ ≠ gb381 ∧ k_ ≠ gb383 ∧ k_ ≠ gb391) u382002 x382002_1) ∧ Aside0 (Kd.V (Kd.int .i64) 3 wc w.heap.size (fun k_ => (w.heap.size ≤ k_) ∧ some k_ ≠ (u382001 : Value).ownBlock ∧ some k_ ≠ (u382002 : Value).ownBlock ∧ k_ ≠ gb373 ∧ k_ ≠ gb374 ∧ k_ ≠ gb381 ∧ k_ ≠ gb383 ∧ k_ ≠ gb391) (.slice Ao36 t385.length co36) t385) ∧ Aside0 (Kd.V k27 27 wc w.heap.size (fun k_ => (w.heap.size ≤ k_) ∧ some k_ ≠ (u382001 : Value).ownBlock ∧ some k_ ≠ (u382002 : Value).ownBlock ∧ k_ ≠ gb373 ∧ k_ ≠ gb374 ∧ k_ ≠ gb381 ∧ k_ ≠ gb383 ∧ k_ ≠ gb391) (.slice Ao37 t388.length co37) t388) ∧ Aside0 (wc.heap[gb373]? = some (.cells #[.int .i64 a0_0, (.slice A0_1 l0_1.length c0_1), (.slice (some ad382) l0_2.length c0_2)] 27 (0, 0))) ∧ Aside0 (wc.heap[gb374]? = some (.cells #[.int .i64 0, (.slice none 0 0), (.slice none 0 0)] 27 (0, 0))) ∧ Aside0 (wc.heap[gb381]? = some (.cells #[.int .i64 a0_0, u382001, u382002] 27 (0, 0))) ∧ Aside0 (wc.heap[gb383]? = some (.cells #[.int .i64 ((rd_T27 l0_2 x17_1).f0), (.slice A382_1 ((rd_T27 l0_2 x17_1).f1).length c382_1), (.slice A382_2 ((rd_T27 l0_2 x17_1).f2).length c382_2)] 27 (0, 0))) ∧ Aside0 (wc.heap[gb391]? = some (.cells #[.int .i64 t384, (.slice Ao36 t385.length co36), (.slice Ao37 t388.length co37)] 27 (0, 0))) ∧ Aside0 (Below w.heap.size w wc))
       case first =>
        have H := HC23.out
        clear HC23
        by_cases c38 : (t385.length : Int) = 1
        ·rw [if_pos c38] at H
         have c38b0 : ((t385.length : Int) == 1) = true := beq_iff_eq.mpr c38
         have c38b1 : ((t385.length : Int) != 1) = false := bne_eq_false_iff_eq.mpr c38
         clear c38
         (first | rw [c38b0] | (simp only [i64_w, i32_w]; rw [c38b0]) | skip)
         by_cases c39 : (t388.length : Int) = 0
         ·rw [if_pos c39] at H
          have c39b0 : ((t388.length : Int) == 0) = true := beq_iff_eq.mpr c39
          have c39b1 : ((t388.length : Int) != 0) = false := bne_eq_false_iff_eq.mpr c39
          clear c39
          by_cases c40 : 0 < (t385.length : Int)
          ·rw [if_pos c40] at H
           have c40b0 : decide (0 < (t385.length : Int)) = true := decide_eq_true c40
           have c40b1 : decide (0 < t385.length) = true := decide_eq_true (by omega)
           clear c40
           replace H := Option.bind_eq_some_iff.mp H
           obtain ⟨t393, A410, H⟩ := H
           replace H : (trustquorumref04_normal.j1 k1 l0_2 (l0_2.length : Int) x17_1 (!t393) a0_0 x382001_1 x382002_1 t384 t385 t388) = some (r1, r2, r3) := H
           have A41 := Aside0.mk A410
           clear A410
           have H' := Aside0.mk H
           clear H
           try go_wp2
           have n0_ : Aside0 (Kd.R (Kd.int .i64) 3 (((w30.setCell ⟨gb391, 0, none⟩ (.int .i64 t384)).setCell ⟨gb391, 1, none⟩ (.slice Ao36 t385.length co36)).setCell ⟨gb391, 2, none⟩ (.slice Ao37 t388.length co37)) w.heap.size (fun k_ => (w.heap.size ≤ k_)) u382001 x382001_1) := ⟨by (with_reducible repeat (first | apply Kd.R_alloc | apply Kd.R_drewN | apply Kd.R_drew)); exact Kd.R_ft3 (Kd.R_types HO_382001.out BK391.out (by decide))⟩
           have n1_ : Aside0 (Kd.N k27 27 (((w30.setCell ⟨gb391, 0, none⟩ (.int .i64 t384)).setCell ⟨gb391, 1, none⟩ (.slice Ao36 t385.length co36)).setCell ⟨gb391, 2, none⟩ (.slice Ao37 t388.length co37)) w.heap.size (fun k_ => (w.heap.size ≤ k_) ∧ some k_ ≠ (u382001 : Value).ownBlock ∧ k_ ≠ gb373 ∧ k_ ≠ gb374 ∧ k_ ≠ gb381 ∧ k_ ≠ gb383 ∧ k_ ≠ gb391) u382002 x382002_1) := ⟨by (with_reducible repeat (first | apply Kd.N_alloc | apply Kd.N_drewN | apply Kd.N_drew)); exact Kd.N_mono (Kd.N_fw3 HO_382002.out (fun _ hk => hk.2)) (fun _ hk => ⟨hk.1.1.1, ⟨hk.1.1.2.1, ⟨hk.1.1.2.2.1, ⟨hk.1.1.2.2.2.1, ⟨hk.1.1.2.2.2.2, ⟨hk.1.2, hk.2⟩⟩⟩⟩⟩⟩)⟩
           have n2_ : Aside0 (Kd.V (Kd.int .i64) 3 (((w30.setCell ⟨gb391, 0, none⟩ (.int .i64 t384)).setCell ⟨gb391, 1, none⟩ (.slice Ao36 t385.length co36)).setCell ⟨gb391, 2, none⟩ (.slice Ao37 t388.length co37)) w.heap.size (fun k_ => (w.heap.size ≤ k_) ∧ some k_ ≠ (u382001 : Value).ownBlock ∧ some k_ ≠ (u382002 : Value).ownBlock ∧ k_ ≠ gb373 ∧ k_ ≠ gb374 ∧ k_ ≠ gb381 ∧ k_ ≠ gb383 ∧ k_ ≠ gb391) (.slice Ao36 t385.length co36) t385) := ⟨by (with_reducible repeat (first | apply Kd.V_alloc | apply Kd.V_drewN | apply Kd.V_drew)); exact Kd.V_mono (Kd.V_fw3 HO387.out (fun _ hk => hk.2)) (fun _ hk => ⟨hk.1.1, ⟨hk.1.2.1, ⟨hk.1.2.2.1, ⟨hk.1.2.2.2.1, ⟨hk.1.2.2.2.2.1, ⟨hk.1.2.2.2.2.2.1, ⟨hk.1.2.2.2.2.2.2, hk.2⟩⟩⟩⟩⟩⟩⟩)⟩
           have n3_ : Aside0 (Kd.V k27 27 (((w30.setCell ⟨gb391, 0, none⟩ (.int .i64 t384)).setCell ⟨gb391, 1, none⟩ (.slice Ao36 t385.length co36)).setCell ⟨gb391, 2, none⟩ (.slice Ao37 t388.length co37)) w.heap.size (fun k_ => (w.heap.size ≤ k_) ∧ some k_ ≠ (u382001 : Value).ownBlock ∧ some k_ ≠ (u382002 : Value).ownBlock ∧ k_ ≠ gb373 ∧ k_ ≠ gb374 ∧ k_ ≠ gb381 ∧ k_ ≠ gb383 ∧ k_ ≠ gb391) (.slice Ao37 t388.length co37) t388) := ⟨by (with_reducible repeat (first | apply Kd.V_alloc | apply Kd.V_drewN | apply Kd.V_drew)); exact Kd.V_mono (Kd.V_fw3 HO390.out (fun _ hk => hk.2)) (fun _ hk => ⟨hk.1.1, ⟨hk.1.2.1, ⟨hk.1.2.2.1, ⟨hk.1.2.2.2.1, ⟨hk.1.2.2.2.2.1, ⟨hk.1.2.2.2.2.2.1, ⟨hk.1.2.2.2.2.2.2, hk.2⟩⟩⟩⟩⟩⟩⟩)⟩
           have n4_ : Aside0 ((((w30.setCell ⟨gb391, 0, none⟩ (.int .i64 t384)).setCell ⟨gb391, 1, none⟩ (.slice Ao36 t385.length co36)).setCell ⟨gb391, 2, none⟩ (.slice Ao37 t388.length co37)).heap[gb373]? = some (.cells #[.int .i64 a0_0, .slice A0_1 l0_1.length c0_1, .slice (some ad382) l0_2.length c0_2] 27 (0, 0))) := ⟨bF BK373⟩
           have n5_ : Aside0 ((((w30.setCell ⟨gb391, 0, none⟩ (.int .i64 t384)).setCell ⟨gb391, 1, none⟩ (.slice Ao36 t385.length co36)).setCell ⟨gb391, 2, none⟩ (.slice Ao37 t388.length co37)).heap[gb374]? = some (.cells #[.int .i64 0, .slice none 0 0, .slice none 0 0] 27 (0, 0))) := ⟨bF BK374⟩
           have n6_ : Aside0 ((((w30.setCell ⟨gb391, 0, none⟩ (.int .i64 t384)).setCell ⟨gb391, 1, none⟩ (.slice Ao36 t385.length co36)).setCell ⟨gb391, 2, none⟩ (.slice Ao37 t388.length co37)).heap[gb381]? = some (.cells #[.int .i64 a0_0, u382001, u382002] 27 (0, 0))) := ⟨bF BK381⟩
           have n7_ : Aside0 ((((w30.setCell ⟨gb391, 0, none⟩ (.int .i64 t384)).setCell ⟨gb391, 1, none⟩ (.slice Ao36 t385.length co36)).setCell ⟨gb391, 2, none⟩ (.slice Ao37 t388.length co37)).heap[gb383]? = some (.cells #[.int .i64 ((rd_T27 l0_2 x17_1).f0), .slice A382_1 ((rd_T27 l0_2 x17_1).f1).length c382_1, .slice A382_2 ((rd_T27 l0_2 x17_1).f2).length c382_2] 27 (0, 0))) := ⟨bF BK383⟩
           have n8_ : Aside0 ((((w30.setCell ⟨gb391, 0, none⟩ (.int .i64 t384)).setCell ⟨gb391, 1, none⟩ (.slice Ao36 t385.length co36)).setCell ⟨gb391, 2, none⟩ (.slice Ao37 t388.length co37)).heap[gb391]? = some (.cells #[.int .i64 t384, .slice Ao36 t385.length co36, .slice Ao37 t388.length co37] 27 (0, 0))) := ⟨bP3 BK391⟩
           have n9_ : Aside0 (Below w.heap.size w (((w30.setCell ⟨gb391, 0, none⟩ (.int .i64 t384)).setCell ⟨gb391, 1, none⟩ (.slice Ao36 t385.length co36)).setCell ⟨gb391, 2, none⟩ (.slice Ao37 t388.length co37))) := ⟨bB HB⟩
           (try clear HO_382001)
           (try clear HO_382002)
           (try clear HO387)
           (try clear HO390)
           (try clear BK373)
           (try clear BK374)
           (try clear BK381)
           (try clear BK383)
           (try clear BK391)
           (try clear HB)
           generalize (((w30.setCell ⟨gb391, 0, none⟩ (.int .i64 t384)).setCell ⟨gb391, 1, none⟩ (.slice Ao36 t385.length co36)).setCell ⟨gb391, 2, none⟩ (.slice Ao37 t388.length co37)) = w42 at n0_ n1_ n2_ n3_ n4_ n5_ n6_ n7_ n8_ n9_ ⊢
           have HO_382001 := n0_
           have HO_382002 := n1_
           have HO387 := n2_
           have HO390 := n3_
           have BK373 := n4_
           have BK374 := n5_
           have BK381 := n6_
           have BK383 := n7_
           have BK391 := n8_
           have HB := n9_
           clear n0_ n1_ n2_ n3_ n4_ n5_ n6_ n7_ n8_ n9_
           replace HO_382001 := Aside0.mk (Kd.R_drew HO_382001.out)
           replace HO_382002 := Aside0.mk (Kd.N_drew HO_382002.out)
           replace HO387 := Aside0.mk (Kd.V_drew HO387.out)
           replace HO390 := Aside0.mk (Kd.V_drew HO390.out)
           replace BK373 := Aside0.mk (blk_drew BK373.out)
           replace BK374 := Aside0.mk (blk_drew BK374.out)
           replace BK381 := Aside0.mk (blk_drew BK381.out)
           replace BK383 := Aside0.mk (blk_drew BK383.out)
           replace BK391 := Aside0.mk (blk_drew BK391.out)
           replace HB := Aside0.mk (below_drew1 HB.out)
           have p392 : 0 ≤ (0 : Int) := (by omega)
           have q392 : 0 < (t385.length : Int) := of_decide_eq_true (by first | (with_reducible assumption) | assumption)
           obtain ⟨ad392, e392, hx392_0⟩ := Kd.at_int (Kd.V_reads' HO387.out).2.2 0 p392 q392
           cases e392
           have qi392 : (0 < t385.length) = True := eq_true (by omega)
           (try rw [show ((0 : Int)).toNat = 0 from rfl] at hx392_0)
           (try rw [Addr.add_zero'] at hx392_0)
           replace p392 := eq_true p392
           replace q392 := eq_true q392
           obtain ⟨Ao44, co44, eo44⟩ := Kd.R_slice HO_382001.out
           (first | subst eo44 | (injection eo44 with f1_ f2_ f3_; have f4_ := f1_.symm; have f5_ := f3_.symm; clear f1_ f2_ f3_; subst f4_; subst f5_))
           refine start_ (n := 20) (S := fun w' => w'.cell? ⟨gb391, 0, none⟩ = some (.int .i64 t384) ∧ w'.cell? ⟨gb391, 1, none⟩ = some (.slice (some ad392) t385.length co36) ∧ w'.cell? ⟨gb391, 2, none⟩ = some (.slice Ao37 t388.length co37) ∧ w'.cell? ⟨gb381, 0, none⟩ = some (.int .i64 a0_0) ∧ w'.cell? ⟨gb381, 1, none⟩ = some (.slice Ao44 x382001_1.length co44) ∧ w'.cell? ⟨gb381, 2, none⟩ = some (u382002) ∧ w'.cell? ad392 = some (.int .i64 (rd t385 0))) (ds := []) #[false, false, false, false, false, false, false, false, false, false, false, false, false, false, false, false, false, false, false, false] (by kernel_rfl) rfl rfl ⟨bC0 BK391, bC1 BK391, bC2 BK391, bC0 BK381, bC1 BK381, bC2 BK381, hx392_0⟩ (fun hHeld => ?_); refine with_tabW trustquorumref04_normal.tab6 trustquorumref04_normal.bits6 (fun HT_ HW_ => ?_)
           generalize w42.drew = w43 at HO_382001 HO_382002 HO387 HO390 BK373 BK374 BK381 BK383 BK391 HB hx392_0 hHeld ⊢
           refine pureA_ 0 23 HT_ ?_
           refine takeA_ 1 24 HT_ HW_ hHeld ?_
           refine pureA_ 2 25 HT_ ?_
           refine pureA_ 3 26 HT_ ?_
           refine pureA_ 4 27 HT_ ?_
           refine pureA_ 5 28 HT_ ?_
           refine takeA_ 6 29 HT_ HW_ hHeld ?_
           refine pureA_ 7 30 HT_ ?_
           refine pureA_ 8 31 HT_ ?_
           refine pureA_ 9 32 HT_ ?_
           refine pureA_ 10 33 HT_ ?_
           refine pureA_ 11 34 HT_ ?_
           refine pureA_ 13 36 HT_ ?_
           refine takeA_ 12 35 HT_ HW_ hHeld ?_
           refine takeA_ 14 37 HT_ HW_ hHeld ?_
           refine pureA_ 15 38 HT_ ?_
           refine takeA_ 16 39 HT_ HW_ hHeld ?_
           refine one_ (i := 17) (N := some 40) #[true, true, true, true, true, true, true, true, true, true, true, true, true, true, true, true, true, true, false, false] rfl rfl (one_of HT_.out (by kernel_rfl)) (by decide) (fun K hK => ?_)
           refine goes_ Try.func49 (by kernel_rfl) rfl #[.slice Ao44 x382001_1.length co44, .int .i64 (rd t385 0)] (by rfl) rfl rfl (by (try simp only [List.map_toArray, List.map_cons, List.map_nil]); first | done | rfl | (simp only [List.length_drop, List.length_take]; rfl)) ?_
           with_reducible refine (trustquorumref04_has.calls k1 _ _ x382001_1 (rd t385 0) t393 _ ?side1 ?side2 A41.out).mono ?_
           (case side1 => exact Kd.uC ((Kd.R_reads' HO_382001.out).2.2))
           (case side2 => exact (Kd.R_reads' HO_382001.out).2.1)
           rintro e w' ⟨rfl, ⟨nd, rfl⟩⟩
           refine ⟨_, rfl, ?_⟩
           refine hK.out _ _ ⟨bC0 BK391, bC1 BK391, bC2 BK391, bC0 BK381, bC1 BK381, bC2 BK381, hHeld.2.2.2.2.2.2⟩ (fun hHeld => ?_)
           clear hK K
           refine normA_ ?_
           refine pureA_ 18 41 HT_ ?_
           refine pureA_ 19 42 HT_ ?_
           refine done_ (done_of HT_.out (by kernel_rfl)) ?_
           try go_wp2
           go_meet
           case rel => exact ⟨_, (!t393), (by first | rfl | (simp; done) | (simp [*]; done)), H', ⟨by have := HK1.out; first | omega | exact Nat.le_refl _⟩, ⟨Kd.uR HO_382001⟩, ⟨Kd.uN HO_382002⟩, ⟨Kd.uV HO387⟩, ⟨Kd.uV HO390⟩, ⟨bU BK373⟩, ⟨bU BK374⟩, ⟨bU BK381⟩, ⟨bU BK383⟩, ⟨bU BK391⟩, ⟨bB HB⟩⟩
          ·rw [if_neg c40] at H
           exact absurd H (by simp)
         ·rw [if_neg c39] at H
          have c39b0 : ((t388.length : Int) == 0) = false := beq_eq_false_iff_ne.mpr c39
          have c39b1 : ((t388.length : Int) != 0) = true := bne_iff_ne.mpr c39
          have c39b2 : ¬ (t388 = []) := fun h_ => c39 (by rw [h_]; rfl)
          have H' := Aside0.mk H
          clear H
          try go_wp2
          have n0_ : Aside0 (Kd.R (Kd.int .i64) 3 (((w30.setCell ⟨gb391, 0, none⟩ (.int .i64 t384)).setCell ⟨gb391, 1, none⟩ (.slice Ao36 t385.length co36)).setCell ⟨gb391, 2, none⟩ (.slice Ao37 t388.length co37)) w.heap.size (fun k_ => (w.heap.size ≤ k_)) u382001 x382001_1) := ⟨by (with_reducible repeat (first | apply Kd.R_alloc | apply Kd.R_drewN | apply Kd.R_drew)); exact Kd.R_ft3 (Kd.R_types HO_382001.out BK391.out (by decide))⟩
          have n1_ : Aside0 (Kd.N k27 27 (((w30.setCell ⟨gb391, 0, none⟩ (.int .i64 t384)).setCell ⟨gb391, 1, none⟩ (.slice Ao36 t385.length co36)).setCell ⟨gb391, 2, none⟩ (.slice Ao37 t388.length co37)) w.heap.size (fun k_ => (w.heap.size ≤ k_) ∧ some k_ ≠ (u382001 : Value).ownBlock ∧ k_ ≠ gb373 ∧ k_ ≠ gb374 ∧ k_ ≠ gb381 ∧ k_ ≠ gb383 ∧ k_ ≠ gb391) u382002 x382002_1) := ⟨by (with_reducible repeat (first | apply Kd.N_alloc | apply Kd.N_drewN | apply Kd.N_drew)); exact Kd.N_mono (Kd.N_fw3 HO_382002.out (fun _ hk => hk.2)) (fun _ hk => ⟨hk.1.1.1, ⟨hk.1.1.2.1, ⟨hk.1.1.2.2.1, ⟨hk.1.1.2.2.2.1, ⟨hk.1.1.2.2.2.2, ⟨hk.1.2, hk.2⟩⟩⟩⟩⟩⟩)⟩
          have n2_ : Aside0 (Kd.V (Kd.int .i64) 3 (((w30.setCell ⟨gb391, 0, none⟩ (.int .i64 t384)).setCell ⟨gb391, 1, none⟩ (.slice Ao36 t385.length co36)).setCell ⟨gb391, 2, none⟩ (.slice Ao37 t388.length co37)) w.heap.size (fun k_ => (w.heap.size ≤ k_) ∧ some k_ ≠ (u382001 : Value).ownBlock ∧ some k_ ≠ (u382002 : Value).ownBlock ∧ k_ ≠ gb373 ∧ k_ ≠ gb374 ∧ k_ ≠ gb381 ∧ k_ ≠ gb383 ∧ k_ ≠ gb391) (.slice Ao36 t385.length co36) t385) := ⟨by (with_reducible repeat (first | apply Kd.V_alloc | apply Kd.V_drewN | apply Kd.V_drew)); exact Kd.V_mono (Kd.V_fw3 HO387.out (fun _ hk => hk.2)) (fun _ hk => ⟨hk.1.1, ⟨hk.1.2.1, ⟨hk.1.2.2.1, ⟨hk.1.2.2.2.1, ⟨hk.1.2.2.2.2.1, ⟨hk.1.2.2.2.2.2.1, ⟨hk.1.2.2.2.2.2.2, hk.2⟩⟩⟩⟩⟩⟩⟩)⟩
          have n3_ : Aside0 (Kd.V k27 27 (((w30.setCell ⟨gb391, 0, none⟩ (.int .i64 t384)).setCell ⟨gb391, 1, none⟩ (.slice Ao36 t385.length co36)).setCell ⟨gb391, 2, none⟩ (.slice Ao37 t388.length co37)) w.heap.size (fun k_ => (w.heap.size ≤ k_) ∧ some k_ ≠ (u382001 : Value).ownBlock ∧ some k_ ≠ (u382002 : Value).ownBlock ∧ k_ ≠ gb373 ∧ k_ ≠ gb374 ∧ k_ ≠ gb381 ∧ k_ ≠ gb383 ∧ k_ ≠ gb391) (.slice Ao37 t388.length co37) t388) := ⟨by (with_reducible repeat (first | apply Kd.V_alloc | apply Kd.V_drewN | apply Kd.V_drew)); exact Kd.V_mono (Kd.V_fw3 HO390.out (fun _ hk => hk.2)) (fun _ hk => ⟨hk.1.1, ⟨hk.1.2.1, ⟨hk.1.2.2.1, ⟨hk.1.2.2.2.1, ⟨hk.1.2.2.2.2.1, ⟨hk.1.2.2.2.2.2.1, ⟨hk.1.2.2.2.2.2.2, hk.2⟩⟩⟩⟩⟩⟩⟩)⟩
          have n4_ : Aside0 ((((w30.setCell ⟨gb391, 0, none⟩ (.int .i64 t384)).setCell ⟨gb391, 1, none⟩ (.slice Ao36 t385.length co36)).setCell ⟨gb391, 2, none⟩ (.slice Ao37 t388.length co37)).heap[gb373]? = some (.cells #[.int .i64 a0_0, .slice A0_1 l0_1.length c0_1, .slice (some ad382) l0_2.length c0_2] 27 (0, 0))) := ⟨bF BK373⟩
          have n5_ : Aside0 ((((w30.setCell ⟨gb391, 0, none⟩ (.int .i64 t384)).setCell ⟨gb391, 1, none⟩ (.slice Ao36 t385.length co36)).setCell ⟨gb391, 2, none⟩ (.slice Ao37 t388.length co37)).heap[gb374]? = some (.cells #[.int .i64 0, .slice none 0 0, .slice none 0 0] 27 (0, 0))) := ⟨bF BK374⟩
          have n6_ : Aside0 ((((w30.setCell ⟨gb391, 0, none⟩ (.int .i64 t384)).setCell ⟨gb391, 1, none⟩ (.slice Ao36 t385.length co36)).setCell ⟨gb391, 2, none⟩ (.slice Ao37 t388.length co37)).heap[gb381]? = some (.cells #[.int .i64 a0_0, u382001, u382002] 27 (0, 0))) := ⟨bF BK381⟩
          have n7_ : Aside0 ((((w30.setCell ⟨gb391, 0, none⟩ (.int .i64 t384)).setCell ⟨gb391, 1, none⟩ (.slice Ao36 t385.length co36)).setCell ⟨gb391, 2, none⟩ (.slice Ao37 t388.length co37)).heap[gb383]? = some (.cells #[.int .i64 ((rd_T27 l0_2 x17_1).f0), .slice A382_1 ((rd_T27 l0_2 x17_1).f1).length c382_1, .slice A382_2 ((rd_T27 l0_2 x17_1).f2).length c382_2] 27 (0, 0))) := ⟨bF BK383⟩
          have n8_ : Aside0 ((((w30.setCell ⟨gb391, 0, none⟩ (.int .i64 t384)).setCell ⟨gb391, 1, none⟩ (.slice Ao36 t385.length co36)).setCell ⟨gb391, 2, none⟩ (.slice Ao37 t388.length co37)).heap[gb391]? = some (.cells #[.int .i64 t384, .slice Ao36 t385.length co36, .slice Ao37 t388.length co37] 27 (0, 0))) := ⟨bP3 BK391⟩
          have n9_ : Aside0 (Below w.heap.size w (((w30.setCell ⟨gb391, 0, none⟩ (.int .i64 t384)).setCell ⟨gb391, 1, none⟩ (.slice Ao36 t385.length co36)).setCell ⟨gb391, 2, none⟩ (.slice Ao37 t388.length co37))) := ⟨bB HB⟩
          (try clear HO_382001)
          (try clear HO_382002)
          (try clear HO387)
          (try clear HO390)
          (try clear BK373)
          (try clear BK374)
          (try clear BK381)
          (try clear BK383)
          (try clear BK391)
          (try clear HB)
          generalize (((w30.setCell ⟨gb391, 0, none⟩ (.int .i64 t384)).setCell ⟨gb391, 1, none⟩ (.slice Ao36 t385.length co36)).setCell ⟨gb391, 2, none⟩ (.slice Ao37 t388.length co37)) = w45 at n0_ n1_ n2_ n3_ n4_ n5_ n6_ n7_ n8_ n9_ ⊢
          have HO_382001 := n0_
          have HO_382002 := n1_
          have HO387 := n2_
          have HO390 := n3_
          have BK373 := n4_
          have BK374 := n5_
          have BK381 := n6_
          have BK383 := n7_
          have BK391 := n8_
          have HB := n9_
          clear n0_ n1_ n2_ n3_ n4_ n5_ n6_ n7_ n8_ n9_
          replace HO_382001 := Aside0.mk (Kd.R_drew HO_382001.out)
          replace HO_382002 := Aside0.mk (Kd.N_drew HO_382002.out)
          replace HO387 := Aside0.mk (Kd.V_drew HO387.out)
          replace HO390 := Aside0.mk (Kd.V_drew HO390.out)
          replace BK373 := Aside0.mk (blk_drew BK373.out)
          replace BK374 := Aside0.mk (blk_drew BK374.out)
          replace BK381 := Aside0.mk (blk_drew BK381.out)
          replace BK383 := Aside0.mk (blk_drew BK383.out)
          replace BK391 := Aside0.mk (blk_drew BK391.out)
          replace HB := Aside0.mk (below_drew1 HB.out)
          refine start_ (n := 20) (S := fun w' => w'.cell? ⟨gb391, 0, none⟩ = some (.int .i64 t384) ∧ w'.cell? ⟨gb391, 1, none⟩ = some (.slice Ao36 t385.length co36) ∧ w'.cell? ⟨gb391, 2, none⟩ = some (.slice Ao37 t388.length co37)) (ds := []) #[false, false, false, false, false, false, false, false, false, false, false, false, false, false, false, false, false, false, false, false] (by kernel_rfl) rfl rfl ⟨bC0 BK391, bC1 BK391, bC2 BK391⟩ (fun hHeld => ?_); refine with_tabW trustquorumref04_normal.tab6 trustquorumref04_normal.bits6 (fun HT_ HW_ => ?_)
          generalize w45.drew = w46 at HO_382001 HO_382002 HO387 HO390 BK373 BK374 BK381 BK383 BK391 HB hHeld ⊢
          refine pureA_ 0 23 HT_ ?_
          refine takeA_ 1 24 HT_ HW_ hHeld ?_
          refine pureA_ 2 25 HT_ ?_
          refine pureA_ 3 26 HT_ ?_
          refine pureA_ 4 27 HT_ ?_
          refine pureA_ 5 28 HT_ ?_
          refine takeA_ 6 29 HT_ HW_ hHeld ?_
          refine pureA_ 7 30 HT_ ?_
          refine pureA_ 8 31 HT_ ?_
          refine pureA_ 9 32 HT_ ?_
          refine pureA_ 10 33 HT_ ?_
          refine pureU_ 11 34 HT_ ?_
          refine pureU_ 12 35 HT_ ?_
          refine pureU_ 13 36 HT_ ?_
          refine pureU_ 14 37 HT_ ?_
          refine pureU_ 15 38 HT_ ?_
          refine pureU_ 16 39 HT_ ?_
          refine pureU_ 17 40 HT_ ?_
          refine pureU_ 18 41 HT_ ?_
          refine pureA_ 19 42 HT_ ?_
          refine done_ (done_of HT_.out (by kernel_rfl)) ?_
          try go_wp2
          go_meet
          case rel => exact ⟨_, (false), (by first | rfl | (simp; done) | (simp [*]; done)), H', ⟨by have := HK1.out; first | omega | exact Nat.le_refl _⟩, ⟨Kd.uR HO_382001⟩, ⟨Kd.uN HO_382002⟩, ⟨Kd.uV HO387⟩, ⟨Kd.uV HO390⟩, ⟨bU BK373⟩, ⟨bU BK374⟩, ⟨bU BK381⟩, ⟨bU BK383⟩, ⟨bU BK391⟩, ⟨bB HB⟩⟩
        ·rw [if_neg c38] at H
         have c38b0 : ((t385.length : Int) == 1) = false := beq_eq_false_iff_ne.mpr c38
         have c38b1 : ((t385.length : Int) != 1) = true := bne_iff_ne.mpr c38
         (first | rw [c38b0] | (simp only [i64_w, i32_w]; rw [c38b0]) | skip)
         have H' := Aside0.mk H
         clear H
         try go_wp2
         have n0_ : Aside0 (Kd.R (Kd.int .i64) 3 (((w30.setCell ⟨gb391, 0, none⟩ (.int .i64 t384)).setCell ⟨gb391, 1, none⟩ (.slice Ao36 t385.length co36)).setCell ⟨gb391, 2, none⟩ (.slice Ao37 t388.length co37)) w.heap.size (fun k_ => (w.heap.size ≤ k_)) u382001 x382001_1) := ⟨by (with_reducible repeat (first | apply Kd.R_alloc | apply Kd.R_drewN | apply Kd.R_drew)); exact Kd.R_ft3 (Kd.R_types HO_382001.out BK391.out (by decide))⟩
         have n1_ : Aside0 (Kd.N k27 27 (((w30.setCell ⟨gb391, 0, none⟩ (.int .i64 t384)).setCell ⟨gb391, 1, none⟩ (.slice Ao36 t385.length co36)).setCell ⟨gb391, 2, none⟩ (.slice Ao37 t388.length co37)) w.heap.size (fun k_ => (w.heap.size ≤ k_) ∧ some k_ ≠ (u382001 : Value).ownBlock ∧ k_ ≠ gb373 ∧ k_ ≠ gb374 ∧ k_ ≠ gb381 ∧ k_ ≠ gb383 ∧ k_ ≠ gb391) u382002 x382002_1) := ⟨by (with_reducible repeat (first | apply Kd.N_alloc | apply Kd.N_drewN | apply Kd.N_drew)); exact Kd.N_mono (Kd.N_fw3 HO_382002.out (fun _ hk => hk.2)) (fun _ hk => ⟨hk.1.1.1, ⟨hk.1.1.2.1, ⟨hk.1.1.2.2.1, ⟨hk.1.1.2.2.2.1, ⟨hk.1.1.2.2.2.2, ⟨hk.1.2, hk.2⟩⟩⟩⟩⟩⟩)⟩
         have n2_ : Aside0 (Kd.V (Kd.int .i64) 3 (((w30.setCell ⟨gb391, 0, none⟩ (.int .i64 t384)).setCell ⟨gb391, 1, none⟩ (.slice Ao36 t385.length co36)).setCell ⟨gb391, 2, none⟩ (.slice Ao37 t388.length co37)) w.heap.size (fun k_ => (w.heap.size ≤ k_) ∧ some k_ ≠ (u382001 : Value).ownBlock ∧ some k_ ≠ (u382002 : Value).ownBlock ∧ k_ ≠ gb373 ∧ k_ ≠ gb374 ∧ k_ ≠ gb381 ∧ k_ ≠ gb383 ∧ k_ ≠ gb391) (.slice Ao36 t385.length co36) t385) := ⟨by (with_reducible repeat (first | apply Kd.V_alloc | apply Kd.V_drewN | apply Kd.V_drew)); exact Kd.V_mono (Kd.V_fw3 HO387.out (fun _ hk => hk.2)) (fun _ hk => ⟨hk.1.1, ⟨hk.1.2.1, ⟨hk.1.2.2.1, ⟨hk.1.2.2.2.1, ⟨hk.1.2.2.2.2.1, ⟨hk.1.2.2.2.2.2.1, ⟨hk.1.2.2.2.2.2.2, hk.2⟩⟩⟩⟩⟩⟩⟩)⟩
         have n3_ : Aside0 (Kd.V k27 27 (((w30.setCell ⟨gb391, 0, none⟩ (.int .i64 t384)).setCell ⟨gb391, 1, none⟩ (.slice Ao36 t385.length co36)).setCell ⟨gb391, 2, none⟩ (.slice Ao37 t388.length co37)) w.heap.size (fun k_ => (w.heap.size ≤ k_) ∧ some k_ ≠ (u382001 : Value).ownBlock ∧ some k_ ≠ (u382002 : Value).ownBlock ∧ k_ ≠ gb373 ∧ k_ ≠ gb374 ∧ k_ ≠ gb381 ∧ k_ ≠ gb383 ∧ k_ ≠ gb391) (.slice Ao37 t388.length co37) t388) := ⟨by (with_reducible repeat (first | apply Kd.V_alloc | apply Kd.V_drewN | apply Kd.V_drew)); exact Kd.V_mono (Kd.V_fw3 HO390.out (fun _ hk => hk.2)) (fun _ hk => ⟨hk.1.1, ⟨hk.1.2.1, ⟨hk.1.2.2.1, ⟨hk.1.2.2.2.1, ⟨hk.1.2.2.2.2.1, ⟨hk.1.2.2.2.2.2.1, ⟨hk.1.2.2.2.2.2.2, hk.2⟩⟩⟩⟩⟩⟩⟩)⟩
         have n4_ : Aside0 ((((w30.setCell ⟨gb391, 0, none⟩ (.int .i64 t384)).setCell ⟨gb391, 1, none⟩ (.slice Ao36 t385.length co36)).setCell ⟨gb391, 2, none⟩ (.slice Ao37 t388.length co37)).heap[gb373]? = some (.cells #[.int .i64 a0_0, .slice A0_1 l0_1.length c0_1, .slice (some ad382) l0_2.length c0_2] 27 (0, 0))) := ⟨bF BK373⟩
         have n5_ : Aside0 ((((w30.setCell ⟨gb391, 0, none⟩ (.int .i64 t384)).setCell ⟨gb391, 1, none⟩ (.slice Ao36 t385.length co36)).setCell ⟨gb391, 2, none⟩ (.slice Ao37 t388.length co37)).heap[gb374]? = some (.cells #[.int .i64 0, .slice none 0 0, .slice none 0 0] 27 (0, 0))) := ⟨bF BK374⟩
         have n6_ : Aside0 ((((w30.setCell ⟨gb391, 0, none⟩ (.int .i64 t384)).setCell ⟨gb391, 1, none⟩ (.slice Ao36 t385.length co36)).setCell ⟨gb391, 2, none⟩ (.slice Ao37 t388.length co37)).heap[gb381]? = some (.cells #[.int .i64 a0_0, u382001, u382002] 27 (0, 0))) := ⟨bF BK381⟩
         have n7_ : Aside0 ((((w30.setCell ⟨gb391, 0, none⟩ (.int .i64 t384)).setCell ⟨gb391, 1, none⟩ (.slice Ao36 t385.length co36)).setCell ⟨gb391, 2, none⟩ (.slice Ao37 t388.length co37)).heap[gb383]? = some (.cells #[.int .i64 ((rd_T27 l0_2 x17_1).f0), .slice A382_1 ((rd_T27 l0_2 x17_1).f1).length c382_1, .slice A382_2 ((rd_T27 l0_2 x17_1).f2).length c382_2] 27 (0, 0))) := ⟨bF BK383⟩
         have n8_ : Aside0 ((((w30.setCell ⟨gb391, 0, none⟩ (.int .i64 t384)).setCell ⟨gb391, 1, none⟩ (.slice Ao36 t385.length co36)).setCell ⟨gb391, 2, none⟩ (.slice Ao37 t388.length co37)).heap[gb391]? = some (.cells #[.int .i64 t384, .slice Ao36 t385.length co36, .slice Ao37 t388.length co37] 27 (0, 0))) := ⟨bP3 BK391⟩
         have n9_ : Aside0 (Below w.heap.size w (((w30.setCell ⟨gb391, 0, none⟩ (.int .i64 t384)).setCell ⟨gb391, 1, none⟩ (.slice Ao36 t385.length co36)).setCell ⟨gb391, 2, none⟩ (.slice Ao37 t388.length co37))) := ⟨bB HB⟩
         (try clear HO_382001)
         (try clear HO_382002)
         (try clear HO387)
         (try clear HO390)
         (try clear BK373)
         (try clear BK374)
         (try clear BK381)
         (try clear BK383)
         (try clear BK391)
         (try clear HB)
         generalize (((w30.setCell ⟨gb391, 0, none⟩ (.int .i64 t384)).setCell ⟨gb391, 1, none⟩ (.slice Ao36 t385.length co36)).setCell ⟨gb391, 2, none⟩ (.slice Ao37 t388.length co37)) = w47 at n0_ n1_ n2_ n3_ n4_ n5_ n6_ n7_ n8_ n9_ ⊢
         have HO_382001 := n0_
         have HO_382002 := n1_
         have HO387 := n2_
         have HO390 := n3_
         have BK373 := n4_
         have BK374 := n5_
         have BK381 := n6_
         have BK383 := n7_
         have BK391 := n8_
         have HB := n9_
         clear n0_ n1_ n2_ n3_ n4_ n5_ n6_ n7_ n8_ n9_
         replace HO_382001 := Aside0.mk (Kd.R_drew HO_382001.out)
         replace HO_382002 := Aside0.mk (Kd.N_drew HO_382002.out)
         replace HO387 := Aside0.mk (Kd.V_drew HO387.out)
         replace HO390 := Aside0.mk (Kd.V_drew HO390.out)
         replace BK373 := Aside0.mk (blk_drew BK373.out)
         replace BK374 := Aside0.mk (blk_drew BK374.out)
         replace BK381 := Aside0.mk (blk_drew BK381.out)
         replace BK383 := Aside0.mk (blk_drew BK383.out)
         replace BK391 := Aside0.mk (blk_drew BK391.out)
         replace HB := Aside0.mk (below_drew1 HB.out)
         refine start_ (n := 20) (S := fun w' => w'.cell? ⟨gb391, 0, none⟩ = some (.int .i64 t384) ∧ w'.cell? ⟨gb391, 1, none⟩ = some (.slice Ao36 t385.length co36) ∧ w'.cell? ⟨gb391, 2, none⟩ = some (.slice Ao37 t388.length co37)) (ds := []) #[false, false, false, false, false, false, false, false, false, false, false, false, false, false, false, false, false, false, false, false] (by kernel_rfl) rfl rfl ⟨bC0 BK391, bC1 BK391, bC2 BK391⟩ (fun hHeld => ?_); refine with_tabW trustquorumref04_normal.tab6 trustquorumref04_normal.bits6 (fun HT_ HW_ => ?_)
         generalize w47.drew = w48 at HO_382001 HO_382002 HO387 HO390 BK373 BK374 BK381 BK383 BK391 HB hHeld ⊢
         refine pureA_ 0 23 HT_ ?_
         refine takeA_ 1 24 HT_ HW_ hHeld ?_
         refine pureA_ 2 25 HT_ ?_
         refine pureA_ 3 26 HT_ ?_
         refine pureA_ 4 27 HT_ ?_
         refine pureU_ 5 28 HT_ ?_
         refine pureU_ 6 29 HT_ ?_
         refine pureU_ 7 30 HT_ ?_
         refine pureU_ 8 31 HT_ ?_
         refine pureA_ 9 32 HT_ ?_
         refine pureA_ 10 33 HT_ ?_
         refine pureU_ 11 34 HT_ ?_
         refine pureU_ 12 35 HT_ ?_
         refine pureU_ 13 36 HT_ ?_
         refine pureU_ 14 37 HT_ ?_
         refine pureU_ 15 38 HT_ ?_
         refine pureU_ 16 39 HT_ ?_
         refine pureU_ 17 40 HT_ ?_
         refine pureU_ 18 41 HT_ ?_
         refine pureA_ 19 42 HT_ ?_
         refine done_ (done_of HT_.out (by kernel_rfl)) ?_
         try go_wp2
         go_meet
         case rel => exact ⟨_, (false), (by first | rfl | (simp; done) | (simp [*]; done)), H', ⟨by have := HK1.out; first | omega | exact Nat.le_refl _⟩, ⟨Kd.uR HO_382001⟩, ⟨Kd.uN HO_382002⟩, ⟨Kd.uV HO387⟩, ⟨Kd.uV HO390⟩, ⟨bU BK373⟩, ⟨bU BK374⟩, ⟨bU BK381⟩, ⟨bU BK383⟩, ⟨bU BK391⟩, ⟨bB HB⟩⟩
       case rest =>
        clear HC23
        try clear p2
        try clear c3
        try clear p3
        try clear q3
        try clear hx3
        try clear qi3
        try clear c4
        try clear c38
        try clear c38b0
        try clear c38b1
        try clear c39
        try clear c39b0
        try clear c39b1
        try clear c39b2
        try clear p39
        try clear q39
        try clear hx39
        try clear qi39
        try clear c40
        try clear hx392_0
        try clear p392
        try clear q392
        obtain ⟨kq, x42_22, rfl, HA, HJ22, HO_382001, HO_382002, HO_392001, HO_392002, BK373, BK374, BK381, BK383, BK391, HB⟩ := hcut
        cases kq with
        | zero => exact absurd HA.out (by simp [trustquorumref04_normal.j1])
        | succ kj22 =>
         have H := HA.out
         clear HA
         simp only [trustquorumref04_normal.j1] at H
         by_cases c49 : x42_22 = true
         ·subst c49
          have H1 : (if 0 < (t385.length : Int) then (if x382001_1.length < 17592186044416 then (trustquorumref04_normal.l0 kj22 l0_2 (l0_2.length : Int) (wrap64 (x17_1 + 1)) a0_0 (x382001_1 ++ [rd t385 0]) x382002_1) else (none)) else (none)) = some (r1, r2, r3) := by rw [if_pos rfl] at H; exact H
          clear H
          have H := H1
          clear H1
          by_cases c50 : 0 < (t385.length : Int)
          ·rw [if_pos c50] at H
           have c50b0 : decide (0 < (t385.length : Int)) = true := decide_eq_true c50
           have c50b1 : decide (0 < t385.length) = true := decide_eq_true (by omega)
           clear c50
           by_cases c51 : x382001_1.length < 17592186044416
           ·rw [if_pos c51] at H
            have LMc51 := Aside0.mk c51
            clear c51
            obtain ⟨y395, hy395⟩ : ∃ y_ : List Int, y_ = (x382001_1 ++ [rd t385 0]) := ⟨_, rfl⟩
            replace H : (trustquorumref04_normal.l0 kj22 l0_2 (l0_2.length : Int) (wrap64 (x17_1 + 1)) a0_0 y395 x382002_1) = some (r1, r2, r3) := by first | (rw [hy395]; with_reducible exact H) | (have H2_ := (Option.bind_some _ _).symm.trans H; rw [hy395]; with_reducible exact H2_) | (have H2_ := (Option.bind_some _ _).symm.trans H; with_reducible exact H2_) | with_reducible exact H | (rw [hy395]; exact H) | exact H
            have Ny395 := Aside0.mk hy395
            clear hy395
            have H' := Aside0.mk H
            clear H
            try go_wp2
            replace HO_382001 := Aside0.mk (Kd.R_drew HO_382001.out)
            replace HO_382002 := Aside0.mk (Kd.N_drew HO_382002.out)
            replace HO_392001 := Aside0.mk (Kd.V_drew HO_392001.out)
            replace HO_392002 := Aside0.mk (Kd.V_drew HO_392002.out)
            replace BK373 := Aside0.mk (blk_drew BK373.out)
            replace BK374 := Aside0.mk (blk_drew BK374.out)
            replace BK381 := Aside0.mk (blk_drew BK381.out)
            replace BK383 := Aside0.mk (blk_drew BK383.out)
            replace BK391 := Aside0.mk (blk_drew BK391.out)
            replace HB := Aside0.mk (below_drew1 HB.out)
            have p394 : 0 ≤ (0 : Int) := (by omega)
            have q394 : 0 < (t385.length : Int) := of_decide_eq_true (by first | (with_reducible assumption) | assumption)
            obtain ⟨ad394, e394, hx394_0⟩ := Kd.at_int (Kd.V_reads' HO_392001.out).2.2 0 p394 q394
            cases e394
            have qi394 : (0 < t385.length) = True := eq_true (by omega)
            (try rw [show ((0 : Int)).toNat = 0 from rfl] at hx394_0)
            (try rw [Addr.add_zero'] at hx394_0)
            replace p394 := eq_true p394
            replace q394 := eq_true q394
            refine start_ (n := 10) (S := fun w' => w'.cell? ⟨gb381, 0, none⟩ = some (.int .i64 a0_0) ∧ w'.cell? ⟨gb381, 1, none⟩ = some (u382001) ∧ w'.cell? ⟨gb381, 2, none⟩ = some (u382002) ∧ w'.cell? ⟨gb391, 0, none⟩ = some (.int .i64 t384) ∧ w'.cell? ⟨gb391, 1, none⟩ = some (.slice (some ad394) t385.length co36) ∧ w'.cell? ⟨gb391, 2, none⟩ = some (.slice Ao37 t388.length co37) ∧ w'.cell? ad394 = some (.int .i64 (rd t385 0))) (ds := [7, 9]) #[false, false, false, false, false, false, false, false, false, false] (by kernel_rfl) rfl rfl ⟨bC0 BK381, bC1 BK381, bC2 BK381, bC0 BK391, bC1 BK391, bC2 BK391, hx394_0⟩ (fun hHeld => ?_); refine with_tabW trustquorumref04_normal.tab7 trustquorumref04_normal.bits7 (fun HT_ HW_ => ?_)
            generalize wc.drew = w52 at HO_382001 HO_382002 HO_392001 HO_392002 BK373 BK374 BK381 BK383 BK391 HB hx394_0 hHeld ⊢
            refine pureA_ 0 43 HT_ ?_
            refine pureA_ 2 45 HT_ ?_
            refine takeA_ 1 44 HT_ HW_ hHeld ?_
            refine takeA_ 3 46 HT_ HW_ hHeld ?_
            refine pureA_ 4 47 HT_ ?_
            refine takeA_ 5 48 HT_ HW_ hHeld ?_
            refine one_ (i := 6) (N := some 49) #[true, true, true, true, true, true, true, false, false, false] rfl rfl (one_of HT_.out (by kernel_rfl)) (by decide) (fun K hK => ?_)
            refine value_ (w1 := ?_) (v := ?_) (by rfl) rfl ?_ ?_
            rotate_left 2
            ·go_simp
             constructor
             ·rfl
             ·rfl
            refine hK.out _ _ ⟨(blk_cell (blk_alloc BK381.out _) 0).trans rfl, (blk_cell (blk_alloc BK381.out _) 1).trans rfl, (blk_cell (blk_alloc BK381.out _) 2).trans rfl, (blk_cell (blk_alloc BK391.out _) 0).trans rfl, (blk_cell (blk_alloc BK391.out _) 1).trans rfl, (blk_cell (blk_alloc BK391.out _) 2).trans rfl, (World.cell?_alloc_lt _ _ _ (World.block_lt_of_cell? _ _ (hHeld.2.2.2.2.2.2))).trans (hHeld.2.2.2.2.2.2)⟩ (fun hHeld => ?_)
            clear hK K
            refine normA_ ?_
            refine last_ (i := 7) (N := some 50) #[true, true, true, true, true, true, true, true, false, false] rfl rfl (one_of HT_.out (by kernel_rfl)) (by decide) (fun K hK => ?_)
            refine Kd.R_append_step (Kd.int .i64) (w0 := w) w.heap.size (by rfl) (.tmp 44) (.tmp 49) 22 3 (.int .i64 0) 8 rfl Try.underlying22 info3 rfl (by decide) (by omega) u382001 x382001_1 (rd t385 0) [.int .i64 (rd t385 0)] (fun k_ => (w.heap.size ≤ k_)) (fun _ => False) rfl rfl ?aP (fun _ hk => hk.elim) ?aF ?aO ?aB ?aS ?aL ?_
            (case aP => exact rfl)
            (case aB => exact (bB HB))
            (case aF => exact (fun k_ hk => (Nat.le_trans (below_size (bB HB)) hk)))
            (case aO => exact (Kd.uR HO_382001))
            (case aS => exact (below_size (bB HB)))
            (case aL => have := LMc51.out; omega)
            intro v396 w53 ho hb hg hat
            rw [← Ny395.out] at ho
            replace HO_382002 := Aside0.mk (Kd.N_afterv (ok := (fun k_ => (w.heap.size ≤ k_) ∧ k_ ≠ gb373 ∧ k_ ≠ gb374 ∧ k_ ≠ gb381 ∧ k_ ≠ gb383 ∧ k_ ≠ gb391)) (by (with_reducible repeat (first | apply Kd.N_alloc | apply Kd.N_drewN | apply Kd.N_drew)); exact Kd.N_mono HO_382002.out (fun _ hk => ⟨⟨hk.1, ⟨hk.2.2.1, ⟨hk.2.2.2.1, ⟨hk.2.2.2.2.1, ⟨hk.2.2.2.2.2.1, hk.2.2.2.2.2.2⟩⟩⟩⟩⟩, hk.2.1⟩)) hg hat)
            replace HO_392001 := Aside0.mk (Kd.V_afterv (ok := (fun k_ => (w.heap.size ≤ k_) ∧ some k_ ≠ (u382002 : Value).ownBlock ∧ k_ ≠ gb373 ∧ k_ ≠ gb374 ∧ k_ ≠ gb381 ∧ k_ ≠ gb383 ∧ k_ ≠ gb391)) (by (with_reducible repeat (first | apply Kd.V_alloc | apply Kd.V_drewN | apply Kd.V_drew)); exact Kd.V_mono HO_392001.out (fun _ hk => ⟨⟨hk.1, ⟨hk.2.2.1, ⟨hk.2.2.2.1, ⟨hk.2.2.2.2.1, ⟨hk.2.2.2.2.2.1, ⟨hk.2.2.2.2.2.2.1, hk.2.2.2.2.2.2.2⟩⟩⟩⟩⟩⟩, hk.2.1⟩)) hg hat)
            replace HO_392002 := Aside0.mk (Kd.V_afterv (ok := (fun k_ => (w.heap.size ≤ k_) ∧ some k_ ≠ (u382002 : Value).ownBlock ∧ k_ ≠ gb373 ∧ k_ ≠ gb374 ∧ k_ ≠ gb381 ∧ k_ ≠ gb383 ∧ k_ ≠ gb391)) (by (with_reducible repeat (first | apply Kd.V_alloc | apply Kd.V_drewN | apply Kd.V_drew)); exact Kd.V_mono HO_392002.out (fun _ hk => ⟨⟨hk.1, ⟨hk.2.2.1, ⟨hk.2.2.2.1, ⟨hk.2.2.2.2.1, ⟨hk.2.2.2.2.2.1, ⟨hk.2.2.2.2.2.2.1, hk.2.2.2.2.2.2.2⟩⟩⟩⟩⟩⟩, hk.2.1⟩)) hg hat)
            replace BK373 := Aside0.mk (blk_grown (bU BK373) hg (Kd.R_ne HO_382001.out BK373.out (by decide)))
            replace BK374 := Aside0.mk (blk_grown (bU BK374) hg (Kd.R_ne HO_382001.out BK374.out (by decide)))
            replace BK381 := Aside0.mk (blk_grown (bU BK381) hg (Kd.R_ne HO_382001.out BK381.out (by decide)))
            replace BK383 := Aside0.mk (blk_grown (bU BK383) hg (Kd.R_ne HO_382001.out BK383.out (by decide)))
            replace BK391 := Aside0.mk (blk_grown (bU BK391) hg (Kd.R_ne HO_382001.out BK391.out (by decide)))
            replace HB := Aside0.mk (hb)
            have HO397 := Aside0.mk (ho)
            clear HO_382001
            clear ho hb hg hat
            obtain ⟨Ao54, co54, eo54⟩ := Kd.R_slice HO397.out
            (first | subst eo54 | (injection eo54 with f1_ f2_ f3_; have f4_ := f1_.symm; have f5_ := f3_.symm; clear f1_ f2_ f3_; subst f4_; subst f5_))
            refine hK.out _ _ ?_
            clear hK K
            refine normA_ ?_
            refine pureA_ 8 51 HT_ ?_
            refine last_ (i := 9) (N := none) #[true, true, true, true, true, true, true, true, true, true] rfl rfl (one_of HT_.out (by kernel_rfl)) (by decide) (fun K hK => ?_)
            have hs55 := bC1 BK381
            have hfs55 := blk_frozen BK381.out 1
            have hns55_0 := NB373_381.out
            have hns55_1 := NB374_381.out
            have hns55_3 := NB383_381.out
            have hns55_4 := NB391_381.out
            have hms55_0 := NB381_373.out
            have hms55_1 := NB381_374.out
            have hms55_3 := NB381_383.out
            have hms55_4 := NB381_391.out
            refine skip_ (w1 := ?_) (by rfl) rfl ?_ ?_
            rotate_left
            ·go_simp
             rfl
            refine hK.out _ _ ?_
            clear hK K
            refine done_ (done_of HT_.out (by kernel_rfl)) ?_
            try go_wp2
            go_roundg kj22
            case measure => have := HK1.out; have := HJ22.out; omega
            case rel => exact ⟨(wrap64 (x17_1 + 1)), (y395), (x382002_1), (.slice Ao54 y395.length co54), (u382002), (by first | rfl | (simp; done) | (simp [*]; done)), H', ⟨by have := HK1.out; have := HJ22.out; omega⟩, ⟨by (with_reducible repeat (first | apply Kd.R_alloc | apply Kd.R_drewN | apply Kd.R_drew)); exact Kd.R_ft1 (Kd.R_types HO397.out BK381.out (by decide))⟩, ⟨by (with_reducible repeat (first | apply Kd.N_alloc | apply Kd.N_drewN | apply Kd.N_drew)); exact Kd.N_mono (Kd.N_fw1 HO_382002.out (fun _ hk => hk.1.2.2.2.1)) (fun _ hk => ⟨hk.1.1, ⟨hk.2, ⟨hk.1.2.1, ⟨hk.1.2.2.1, hk.1.2.2.2.1⟩⟩⟩⟩)⟩, ⟨bF BK373⟩, ⟨bF BK374⟩, ⟨by (with_reducible repeat (first | refine blk_drewN ?_ _ | refine blk_drew ?_ | refine blk_alloc ?_ _)); refine blk_put (cs := #[.int .i64 a0_0, u382001, u382002]) ?_ 1 _ rfl; (with_reducible repeat (first | refine blk_drewN ?_ _ | refine blk_drew ?_ | refine blk_alloc ?_ _)); exact BK381.out⟩, ⟨bB HB⟩⟩
           ·rw [if_neg c51] at H
            exact absurd H (by simp)
          ·rw [if_neg c50] at H
           exact absurd H (by simp)
         ·replace c49 := Bool.eq_false_iff.mpr c49
          subst c49
          have H1 : (if x382002_1.length < 2513169434916 then (trustquorumref04_normal.l0 kj22 l0_2 (l0_2.length : Int) (wrap64 (x17_1 + 1)) a0_0 x382001_1 (x382002_1 ++ [(⟨t384, t385, t388⟩ : S27)])) else (none)) = some (r1, r2, r3) := by rw [if_neg (show ¬ (false = true) by decide)] at H; exact H
          clear H
          have H := H1
          clear H1
          by_cases c56 : x382002_1.length < 2513169434916
          ·rw [if_pos c56] at H
           have LMc56 := Aside0.mk c56
           clear c56
           obtain ⟨y398, hy398⟩ : ∃ y_ : List (S27), y_ = (x382002_1 ++ [(⟨t384, t385, t388⟩ : S27)]) := ⟨_, rfl⟩
           replace H : (trustquorumref04_normal.l0 kj22 l0_2 (l0_2.length : Int) (wrap64 (x17_1 + 1)) a0_0 x382001_1 y398) = some (r1, r2, r3) := by first | (rw [hy398]; with_reducible exact H) | (have H2_ := (Option.bind_some _ _).symm.trans H; rw [hy398]; with_reducible exact H2_) | (have H2_ := (Option.bind_some _ _).symm.trans H; with_reducible exact H2_) | with_reducible exact H | (rw [hy398]; exact H) | exact H
           have Ny398 := Aside0.mk hy398
           clear hy398
           have H' := Aside0.mk H
           clear H
           have hnb57 := NB381_373.out
           have hnc57 := NB373_381.out
           have hnb58 := NB381_374.out
           have hnc58 := NB374_381.out
           have hnb59 := NB381_383.out
           have hnc59 := NB383_381.out
           have hnb60 := NB381_391.out
           have hnc60 := NB391_381.out
           have hcz61_0 := bC0 BK381
           have hcz61_1 := bC1 BK381
           have hcz61_2 := bC2 BK381
           have hfz61_0 := blk_frozen BK381.out 0
           have hfz61_1 := blk_frozen BK381.out 1
           have hfz61_2 := blk_frozen BK381.out 2
           have hnb62 := NB391_373.out
           have hnc62 := NB373_391.out
           have hnb63 := NB391_374.out
           have hnc63 := NB374_391.out
           have hnb64 := NB391_383.out
           have hnc64 := NB383_391.out
           have hcz65_0 := bC0 BK391
           have hcz65_1 := bC1 BK391
           have hcz65_2 := bC2 BK391
           have hfz65_0 := blk_frozen BK391.out 0
           have hfz65_1 := blk_frozen BK391.out 1
           have hfz65_2 := blk_frozen BK391.out 2
           go_wp2_with (first | ((with_reducible refine gate_builtin (b := .append) (xs := #[.tmp 53, .tmp 55]) rfl ?_); (try (refine gate_guard (by rfl) ?_; dsimp only)); at_builtin; refine Kd.N_append k27 (w0 := w) w.heap.size rfl (.tmp 53) (.tmp 55) 25 27 (.agg #[(.int .i64 0), (.slice none 0 0), (.slice none 0 0)]) 56 rfl Try.underlying25 info27 rfl (by decide) (by omega) u382002 x382002_1 (⟨t384, t385, t388⟩ : S27) [.int .i64 t384, .slice Ao36 t385.length co36, .slice Ao37 t388.length co37] (fun k_ => (w.heap.size ≤ k_) ∧ some k_ ≠ (u382001 : Value).ownBlock ∧ k_ ≠ gb373 ∧ k_ ≠ gb374 ∧ k_ ≠ gb381 ∧ k_ ≠ gb383 ∧ k_ ≠ gb391) (fun k_ => ((fun k_ => (w.heap.size ≤ k_) ∧ some k_ ≠ (u382001 : Value).ownBlock ∧ k_ ≠ gb373 ∧ k_ ≠ gb374 ∧ k_ ≠ gb381 ∧ k_ ≠ gb383 ∧ k_ ≠ gb391)) k_ ∧ some k_ ≠ (u382002 : Value).ownBlock) rfl rfl ?aP (fun _ hk => hk) ?aF ?aO ?aB ?aS ?aL ?_; (case aP => exact (k27_mkF _ _ (⟨t384, t385, t388⟩ : S27) (Kd.V_reads' (Kd.V_mono (ok' := (fun k_ => ((fun k_ => (w.heap.size ≤ k_) ∧ some k_ ≠ (u382001 : Value).ownBlock ∧ k_ ≠ gb373 ∧ k_ ≠ gb374 ∧ k_ ≠ gb381 ∧ k_ ≠ gb383 ∧ k_ ≠ gb391)) k_ ∧ some k_ ≠ (u382002 : Value).ownBlock)) (HO_392001.out) (fun k_ hk => ⟨⟨hk.1, ⟨hk.2.1, ⟨hk.2.2.2.1, ⟨hk.2.2.2.2.1, ⟨hk.2.2.2.2.2.1, ⟨hk.2.2.2.2.2.2.1, hk.2.2.2.2.2.2.2⟩⟩⟩⟩⟩⟩, hk.2.2.1⟩))).2.1 (Kd.V_F (Kd.V_mono (ok' := (fun k_ => ((fun k_ => (w.heap.size ≤ k_) ∧ some k_ ≠ (u382001 : Value).ownBlock ∧ k_ ≠ gb373 ∧ k_ ≠ gb374 ∧ k_ ≠ gb381 ∧ k_ ≠ gb383 ∧ k_ ≠ gb391)) k_ ∧ some k_ ≠ (u382002 : Value).ownBlock)) (HO_392001.out) (fun k_ hk => ⟨⟨hk.1, ⟨hk.2.1, ⟨hk.2.2.2.1, ⟨hk.2.2.2.2.1, ⟨hk.2.2.2.2.2.1, ⟨hk.2.2.2.2.2.2.1, hk.2.2.2.2.2.2.2⟩⟩⟩⟩⟩⟩, hk.2.2.1⟩))) (Kd.V_reads' (Kd.V_mono (ok' := (fun k_ => ((fun k_ => (w.heap.size ≤ k_) ∧ some k_ ≠ (u382001 : Value).ownBlock ∧ k_ ≠ gb373 ∧ k_ ≠ gb374 ∧ k_ ≠ gb381 ∧ k_ ≠ gb383 ∧ k_ ≠ gb391)) k_ ∧ some k_ ≠ (u382002 : Value).ownBlock)) (HO_392002.out) (fun k_ hk => ⟨⟨hk.1, ⟨hk.2.1, ⟨hk.2.2.2.1, ⟨hk.2.2.2.2.1, ⟨hk.2.2.2.2.2.1, ⟨hk.2.2.2.2.2.2.1, hk.2.2.2.2.2.2.2⟩⟩⟩⟩⟩⟩, hk.2.2.1⟩))).2.1 (Kd.V_F (Kd.V_mono (ok' := (fun k_ => ((fun k_ => (w.heap.size ≤ k_) ∧ some k_ ≠ (u382001 : Value).ownBlock ∧ k_ ≠ gb373 ∧ k_ ≠ gb374 ∧ k_ ≠ gb381 ∧ k_ ≠ gb383 ∧ k_ ≠ gb391)) k_ ∧ some k_ ≠ (u382002 : Value).ownBlock)) (HO_392002.out) (fun k_ hk => ⟨⟨hk.1, ⟨hk.2.1, ⟨hk.2.2.2.1, ⟨hk.2.2.2.2.1, ⟨hk.2.2.2.2.2.1, ⟨hk.2.2.2.2.2.2.1, hk.2.2.2.2.2.2.2⟩⟩⟩⟩⟩⟩, hk.2.2.1⟩))))); (case aB => exact (bB HB)); (case aF => exact (fun k_ hk => ⟨(Nat.le_trans (below_size (bB HB)) hk), Kd.fresh' (Kd.R_lt (Kd.uR HO_382001)) k_ hk, Kd.freshB (bU BK373) k_ hk, Kd.freshB (bU BK374) k_ hk, Kd.freshB (bU BK381) k_ hk, Kd.freshB (bU BK383) k_ hk, Kd.freshB (bU BK391) k_ hk⟩)); (case aO => exact (Kd.uN HO_382002)); (case aS => exact (below_size (bB HB))); (case aL => have := LMc56.out; omega); intro v399 w66 ho hb hg hat; rw [← Ny398.out] at ho; replace HO_382001 := Aside0.mk (Kd.R_over' (Kd.uR HO_382001) (Kd.N_typed (Kd.uN HO_382002)) (by decide) hg); replace HO_392001 := Aside0.mk (Kd.V_afterv (ok := (fun k_ => (w.heap.size ≤ k_) ∧ some k_ ≠ (u382001 : Value).ownBlock ∧ k_ ≠ gb373 ∧ k_ ≠ gb374 ∧ k_ ≠ gb381 ∧ k_ ≠ gb383 ∧ k_ ≠ gb391)) (by (with_reducible repeat (first | apply Kd.V_alloc | apply Kd.V_drewN | apply Kd.V_drew)); exact Kd.V_mono HO_392001.out (fun _ hk => ⟨⟨hk.1, ⟨hk.2.1, ⟨hk.2.2.2.1, ⟨hk.2.2.2.2.1, ⟨hk.2.2.2.2.2.1, ⟨hk.2.2.2.2.2.2.1, hk.2.2.2.2.2.2.2⟩⟩⟩⟩⟩⟩, hk.2.2.1⟩)) hg hat); replace HO_392002 := Aside0.mk (Kd.V_afterv (ok := (fun k_ => (w.heap.size ≤ k_) ∧ some k_ ≠ (u382001 : Value).ownBlock ∧ k_ ≠ gb373 ∧ k_ ≠ gb374 ∧ k_ ≠ gb381 ∧ k_ ≠ gb383 ∧ k_ ≠ gb391)) (by (with_reducible repeat (first | apply Kd.V_alloc | apply Kd.V_drewN | apply Kd.V_drew)); exact Kd.V_mono HO_392002.out (fun _ hk => ⟨⟨hk.1, ⟨hk.2.1, ⟨hk.2.2.2.1, ⟨hk.2.2.2.2.1, ⟨hk.2.2.2.2.2.1, ⟨hk.2.2.2.2.2.2.1, hk.2.2.2.2.2.2.2⟩⟩⟩⟩⟩⟩, hk.2.2.1⟩)) hg hat); replace BK373 := Aside0.mk (blk_grown (bU BK373) hg (Kd.N_away HO_382002.out (fun _ hk => hk.2.2.1))); replace BK374 := Aside0.mk (blk_grown (bU BK374) hg (Kd.N_away HO_382002.out (fun _ hk => hk.2.2.2.1))); replace BK381 := Aside0.mk (blk_grown (bU BK381) hg (Kd.N_away HO_382002.out (fun _ hk => hk.2.2.2.2.1))); replace BK383 := Aside0.mk (blk_grown (bU BK383) hg (Kd.N_away HO_382002.out (fun _ hk => hk.2.2.2.2.2.1))); replace BK391 := Aside0.mk (blk_grown (bU BK391) hg (Kd.N_away HO_382002.out (fun _ hk => hk.2.2.2.2.2.2))); replace HB := Aside0.mk (hb); have HO400 := Aside0.mk (ho); clear HO_382002; clear ho hb hg hat; obtain ⟨Ao67, co67, eo67⟩ := Kd.N_slice HO400.out; subst eo67; have hcz68_0 := bC0 BK381; have hcz68_1 := bC1 BK381; have hcz68_2 := bC2 BK381; have hfz68_0 := blk_frozen BK381.out 0; have hfz68_1 := blk_frozen BK381.out 1; have hfz68_2 := blk_frozen BK381.out 2))
           go_roundg kj22
           case measure => have := HK1.out; have := HJ22.out; omega
           case rel => exact ⟨(wrap64 (x17_1 + 1)), (x382001_1), (y398), (u382001), (.slice Ao67 y398.length co67), (by first | rfl | (simp; done) | (simp [*]; done)), H', ⟨by have := HK1.out; have := HJ22.out; omega⟩, ⟨by (with_reducible repeat (first | apply Kd.R_alloc | apply Kd.R_drewN | apply Kd.R_drew)); exact Kd.R_ft1 (Kd.R_types HO_382001.out BK381.out (by decide))⟩, ⟨by (with_reducible repeat (first | apply Kd.N_alloc | apply Kd.N_drewN | apply Kd.N_drew)); exact Kd.N_mono (Kd.N_fw1 HO400.out (fun _ hk => hk.2.2.2.2.1)) (fun _ hk => ⟨hk.1, ⟨hk.2.1, ⟨hk.2.2.1, ⟨hk.2.2.2.1, hk.2.2.2.2.1⟩⟩⟩⟩)⟩, ⟨bF BK373⟩, ⟨bF BK374⟩, ⟨by (with_reducible repeat (first | refine blk_drewN ?_ _ | refine blk_drew ?_ | refine blk_alloc ?_ _)); refine blk_put (cs := #[.int .i64 a0_0, u382001, u382002]) ?_ 2 _ rfl; (with_reducible repeat (first | refine blk_drewN ?_ _ | refine blk_drew ?_ | refine blk_alloc ?_ _)); exact BK381.out⟩, ⟨bB HB⟩⟩
          ·rw [if_neg c56] at H
           exact absurd H (by simp)
      ·rw [if_neg c21] at H
       exact absurd H (by simp)
     ·rw [if_neg c20] at H
      exact absurd H (by simp)
    ·rw [if_neg c19] at H
     have c19b0 : decide (x17_1 < (l0_2.length : Int)) = false := decide_eq_false c19
     clear c19
     have HC69 := Aside0.mk H
     clear H
     have hnb70 := NB381_373.out
     have hnc70 := NB373_381.out
     have hnb71 := NB381_374.out
     have hnc71 := NB374_381.out
     have hcz72_0 := bC0 BK381
     have hcz72_1 := bC1 BK381
     have hcz72_2 := bC2 BK381
     have hfz72_0 := blk_frozen BK381.out 0
     have hfz72_1 := blk_frozen BK381.out 1
     have hfz72_2 := blk_frozen BK381.out 2
     go_upto_if 61 with (fail)
     go_cut [] (fun wc => ∃ (kq : Nat) (x382000_68 : Int) (x382001_68 : List Int) (x382002_68 : List (S27)) (u382001 : Value) (u382002 : Value), Aside0 (trustquorumref04_normal.j2 kq x382000_68 x382001_68 x382002_68 = some (r1, r2, r3)) ∧ Aside0 (kq ≤ k1) ∧ Aside0 (Kd.R (Kd.int .i64) 3 wc w.heap.size (fun k_ => (w.heap.size ≤ k_)) u382001 x382001_68) ∧ Aside0 (Kd.V k27 27 wc w.heap.size (fun k_ => (w.heap.size ≤ k_) ∧ some k_ ≠ (u382001 : Value).ownBlock ∧ k_ ≠ gb373 ∧ k_ ≠ gb374 ∧ k_ ≠ gb381) u382002 x382002_68) ∧ Aside0 (wc.heap[gb373]? = some (.cells #[.int .i64 a0_0, (.slice A0_1 l0_1.length c0_1), (.slice A0_2 l0_2.length c0_2)] 27 (0, 0))) ∧ Aside0 (wc.heap[gb374]? = some (.cells #[.int .i64 0, (.slice none 0 0), (.slice none 0 0)] 27 (0, 0))) ∧ Aside0 (wc.heap[gb381]? = some (.cells #[.int .i64 x382000_68, u382001, u382002] 27 (0, 0))) ∧ Aside0 (Below w.heap.size w wc))
     case first =>
      have H := HC69.out
      clear HC69
      by_cases c73 : a0_0 = 1
      ·rw [if_pos c73] at H
       have c73b0 : (a0_0 == 1) = true := beq_iff_eq.mpr c73
       have c73b1 : (a0_0 != 1) = false := bne_eq_false_iff_eq.mpr c73
       clear c73
       (first | rw [c73b0] | (simp only [i64_w, i32_w]; rw [c73b0]) | skip)
       replace H := Option.bind_eq_some_iff.mp H
       obtain ⟨⟨t401, t402, t405⟩, A740, H⟩ := H
       replace H : (trustquorumref04_normal.j2 k1 t401 t402 t405) = some (r1, r2, r3) := H
       have A74 := Aside0.mk A740
       clear A740
       have H' := Aside0.mk H
       clear H
       have hnb75 := NB381_373.out
       have hnc75 := NB373_381.out
       have hnb76 := NB381_374.out
       have hnc76 := NB374_381.out
       have hcz77_0 := bC0 BK381
       have hcz77_1 := bC1 BK381
       have hcz77_2 := bC2 BK381
       have hfz77_0 := blk_frozen BK381.out 0
       have hfz77_1 := blk_frozen BK381.out 1
       have hfz77_2 := blk_frozen BK381.out 2
       obtain ⟨Ao78, co78, eo78⟩ := Kd.R_slice HO_382001.out
       subst eo78
       obtain ⟨Ao79, co79, eo79⟩ := Kd.N_slice HO_382002.out
       subst eo79
       go_wp2_with (first | ((with_reducible refine gate_callee (f := 50) rfl ?_); refine goesA_ (some 63) rfl rfl Try.func50 rfl #[.agg #[.int .i64 a0_0, .slice Ao78 x382001_1.length co78, .slice Ao79 x382002_1.length co79], .bool false] rfl ?_; (with_reducible refine (trustquorumref04_merged.calls k1 a0_0 _ _ x382001_1 (fun k_ => ((w.heap.size ≤ k_) ∧ (some k_ ≠ (.slice Ao78 x382001_1.length co78 : Value).ownBlock ∧ (k_ ≠ gb373 ∧ (k_ ≠ gb374 ∧ k_ ≠ gb381))))) _ _ x382002_1 false t401 t402 t405 _ ?side1 ?side2 ?side3 A74.out).mono ?_); (case side1 => exact Kd.uC ((Kd.R_reads' HO_382001.out).2.2)); (case side2 => exact (Kd.R_reads' HO_382001.out).2.1); (case side3 => exact Kd.N_V (HO_382002.out)); rintro e w80 ⟨v403, v406, rfl, ho0, ho1, hb⟩; refine ⟨_, rfl, ?_⟩; replace HO_382002 := Aside0.mk (Kd.N_elder' (Kd.uN HO_382002) (Kd.R_base ho0) hb); have HO404 := Aside0.mk (Kd.R_lower (Kd.R_new' (Kd.R_newM (M := fun k_ => (w.heap.size ≤ k_)) (Kd.R_mono (ok' := fun k_ => True) ho0 (fun _ hk_ => trivial)) (below_size (bB HB)) (fun k_ h_ => h_)) (Kd.R_lt (Kd.uR HO_382001))) (below_size (bB HB))); have HO407 := Aside0.mk (Kd.V_lower (Kd.V_mono (ok' := fun k_ => (w.heap.size ≤ k_) ∧ some k_ ≠ (v403 : Value).ownBlock ∧ some k_ ≠ (.slice Ao78 x382001_1.length co78 : Value).ownBlock ∧ k_ ≠ gb373 ∧ k_ ≠ gb374 ∧ k_ ≠ gb381) ho1 (fun k_ hk_ => ⟨Or.elim hk_.1 (fun hs_ => hs_.1) (fun hn_ => (Nat.le_trans (below_size (bB HB)) hn_)), hk_.2, Or.elim hk_.1 (fun hs_ => hs_.2.1) (fun hn_ => (Kd.fresh' (Kd.R_lt (Kd.uR HO_382001)) k_ hn_)), Or.elim hk_.1 (fun hs_ => hs_.2.2.1) (fun hn_ => (Kd.freshB (bU BK373) k_ hn_)), Or.elim hk_.1 (fun hs_ => hs_.2.2.2.1) (fun hn_ => (Kd.freshB (bU BK374) k_ hn_)), Or.elim hk_.1 (fun hs_ => hs_.2.2.2.2) (fun hn_ => (Kd.freshB (bU BK381) k_ hn_))⟩)) (below_size (bB HB))); replace HO_382001 := Aside0.mk (Kd.R_elder' (Kd.uR HO_382001) (Kd.R_base ho0) hb); replace BK373 := bb BK373 hb; replace BK374 := bb BK374 hb; replace BK381 := bb BK381 hb; replace HB := bs HB hb; (try clear hb); (try clear hb2); (try clear hk); (try clear hi); (try clear ho0); (try clear ho1); have hcz81_0 := bC0 BK381; have hcz81_1 := bC1 BK381; have hcz81_2 := bC2 BK381; have hfz81_0 := blk_frozen BK381.out 0; have hfz81_1 := blk_frozen BK381.out 1; have hfz81_2 := blk_frozen BK381.out 2; obtain ⟨Ao82, co82, eo82⟩ := Kd.R_slice HO404.out; subst eo82; obtain ⟨Ao83, co83, eo83⟩ := Kd.V_slice HO407.out; subst eo83))
       go_meet
       case rel => exact ⟨_, (t401), (t402), (t405), (.slice Ao82 t402.length co82), (.slice Ao83 t405.length co83), H', ⟨by have := HK1.out; first | omega | exact Nat.le_refl _⟩, ⟨by (with_reducible repeat (first | apply Kd.R_alloc | apply Kd.R_drewN | apply Kd.R_drew)); exact Kd.R_mono (Kd.R_ft3 (Kd.R_types HO404.out BK381.out (by decide))) (fun _ hk => hk.1.1)⟩, ⟨by (with_reducible repeat (first | apply Kd.V_alloc | apply Kd.V_drewN | apply Kd.V_drew)); exact Kd.V_mono (Kd.V_fw3 HO407.out (fun _ hk => hk.2.2.2.2.2)) (fun _ hk => ⟨hk.1, ⟨hk.2.1, ⟨hk.2.2.2.1, ⟨hk.2.2.2.2.1, hk.2.2.2.2.2⟩⟩⟩⟩)⟩, ⟨bF BK373⟩, ⟨bF BK374⟩, ⟨bP3 BK381⟩, ⟨bB HB⟩⟩
      ·rw [if_neg c73] at H
       have c73b0 : (a0_0 == 1) = false := beq_eq_false_iff_ne.mpr c73
       have c73b1 : (a0_0 != 1) = true := bne_iff_ne.mpr c73
       (first | rw [c73b0] | (simp only [i64_w, i32_w]; rw [c73b0]) | skip)
       replace H := Option.bind_eq_some_iff.mp H
       obtain ⟨t408, A840, H⟩ := H
       replace H : (if a0_0 = t408 then ((trustquorumref04_merged.f k1 a0_0 x382001_1 x382002_1 true).bind fun bt409 => (trustquorumref04_normal.j2 k1 bt409.1 bt409.2.1 bt409.2.2)) else (trustquorumref04_normal.j2 k1 a0_0 x382001_1 x382002_1)) = some (r1, r2, r3) := H
       have A84 := Aside0.mk A840
       clear A840
       by_cases c85 : a0_0 = t408
       ·rw [if_pos c85] at H
        have c85b0 : (a0_0 == t408) = true := beq_iff_eq.mpr c85
        have c85b1 : (a0_0 != t408) = false := bne_eq_false_iff_eq.mpr c85
        clear c85
        replace H := Option.bind_eq_some_iff.mp H
        obtain ⟨⟨t409, t410, t413⟩, A860, H⟩ := H
        replace H : (trustquorumref04_normal.j2 k1 t409 t410 t413) = some (r1, r2, r3) := H
        have A86 := Aside0.mk A860
        clear A860
        have H' := Aside0.mk H
        clear H
        try go_wp2
        replace HO_382001 := Aside0.mk (Kd.R_drew HO_382001.out)
        replace HO_382002 := Aside0.mk (Kd.N_drew HO_382002.out)
        replace BK373 := Aside0.mk (blk_drew BK373.out)
        replace BK374 := Aside0.mk (blk_drew BK374.out)
        replace BK381 := Aside0.mk (blk_drew BK381.out)
        replace HB := Aside0.mk (below_drew1 HB.out)
        obtain ⟨Ao88, co88, eo88⟩ := Kd.R_slice HO_382001.out
        (first | subst eo88 | (injection eo88 with f1_ f2_ f3_; have f4_ := f1_.symm; have f5_ := f3_.symm; clear f1_ f2_ f3_; subst f4_; subst f5_))
        obtain ⟨Ao89, co89, eo89⟩ := Kd.N_slice HO_382002.out
        (first | subst eo89 | (injection eo89 with f1_ f2_ f3_; have f4_ := f1_.symm; have f5_ := f3_.symm; clear f1_ f2_ f3_; subst f4_; subst f5_))
        refine start_ (n := 5) (S := fun w' => w'.cell? ⟨gb381, 0, none⟩ = some (.int .i64 a0_0) ∧ w'.cell? ⟨gb381, 1, none⟩ = some (.slice Ao88 x382001_1.length co88) ∧ w'.cell? ⟨gb381, 2, none⟩ = some (.slice Ao89 x382002_1.length co89)) (ds := []) #[false, false, false, false, false] (by kernel_rfl) rfl rfl ⟨bC0 BK381, bC1 BK381, bC2 BK381⟩ (fun hHeld => ?_)
        generalize wr.drew = w87 at HO_382001 HO_382002 BK373 BK374 BK381 HB hHeld ⊢
        refine pure_ (i := 0) (N := some 64) (v := ?_) (a' := ?_) #[true, false, false, false, false] rfl rfl (by kernel_rfl) (fun _ _ _ h => h) (Or.inl ⟨by rfl, ?_⟩) ?_ ?_
        rotate_left
        ·intro w'
         go_simp
         with_reducible rfl
        rotate_left
        ·simp only [Act.put, List.setIfInBounds_toArray, List.set_cons_zero, List.set_cons_succ, i64_w, i32_w]
         rfl
        refine take_ (i := 1) (N := some 65) (v := ?_) (a' := ?_) #[true, true, false, false, false] rfl rfl (by kernel_rfl) (fun _ _ _ h => h) (Or.inl ⟨by rfl, ?_⟩) hHeld ?_ ?_
        rotate_left
        ·rintro w' ⟨s0, s1, s2⟩
         go_simp
         with_reducible rfl
        rotate_left
        ·simp only [Act.put, List.setIfInBounds_toArray, List.set_cons_zero, List.set_cons_succ, i64_w, i32_w]
         rfl
        refine take_ (i := 2) (N := some 66) (v := ?_) (a' := ?_) #[true, true, true, false, false] rfl rfl (by kernel_rfl) (fun _ _ _ h => h) (Or.inl ⟨by rfl, ?_⟩) hHeld ?_ ?_
        rotate_left
        ·rintro w' ⟨s0, s1, s2⟩
         go_simp
         with_reducible rfl
        rotate_left
        ·simp only [Act.put, List.setIfInBounds_toArray, List.set_cons_zero, List.set_cons_succ, i64_w, i32_w]
         rfl
        refine one_ (i := 3) (N := some 67) #[true, true, true, true, false] rfl rfl (by kernel_rfl) (by decide) (fun K hK => ?_)
        refine goes_ Try.func51 (by kernel_rfl) rfl #[.agg #[.int .i64 a0_0, .slice Ao88 x382001_1.length co88, .slice Ao89 x382002_1.length co89]] (by rfl) rfl rfl (by (try simp only [List.map_toArray, List.map_cons, List.map_nil]); first | done | rfl | (simp only [List.length_drop, List.length_take]; rfl)) ?_
        with_reducible refine (trustquorumref04_count.calls a0_0 _ _ x382001_1 _ _ x382002_1 t408 _ ?side1 ?side2 ?side3 ?side4 A84.out).mono ?_
        (case side1 => exact Kd.uC ((Kd.R_reads' HO_382001.out).2.2))
        (case side2 => exact (Kd.R_reads' HO_382001.out).2.1)
        (case side3 => exact Kd.uC ((Kd.N_reads' HO_382002.out).2.2))
        (case side4 => exact (Kd.N_reads' HO_382002.out).2.1)
        rintro e w90 ⟨rfl, hb⟩
        refine ⟨_, rfl, ?_⟩
        replace HO_382001 := Kd.bR HO_382001 hb
        replace HO_382002 := Kd.bN HO_382002 hb
        replace BK373 := bb BK373 hb
        replace BK374 := bb BK374 hb
        replace BK381 := bb BK381 hb
        replace HB := bs HB hb
        (try clear hb)
        (try clear hb2)
        (try clear hk)
        (try clear hi)
        refine hK.out _ _ ⟨bC0 BK381, bC1 BK381, bC2 BK381⟩ (fun hHeld => ?_)
        clear hK K
        refine normA_ ?_
        refine pure_ (i := 4) (N := some 68) (v := ?_) (a' := ?_) #[true, true, true, true, true] rfl rfl (by kernel_rfl) (fun _ _ _ h => h) (Or.inl ⟨by rfl, ?_⟩) ?_ ?_
        rotate_left
        ·intro w'
         go_simp
         with_reducible rfl
        rotate_left
        ·simp only [Act.put, List.setIfInBounds_toArray, List.set_cons_zero, List.set_cons_succ, i64_w, i32_w]
         rfl
        refine done_ (by kernel_rfl) ?_
        have hnb91 := NB381_373.out
        have hnc91 := NB373_381.out
        have hnb92 := NB381_374.out
        have hnc92 := NB374_381.out
        have hcz93_0 := bC0 BK381
        have hcz93_1 := bC1 BK381
        have hcz93_2 := bC2 BK381
        have hfz93_0 := blk_frozen BK381.out 0
        have hfz93_1 := blk_frozen BK381.out 1
        have hfz93_2 := blk_frozen BK381.out 2
        try go_wp2_with (first | ((with_reducible refine gate_callee (f := 50) rfl ?_); refine goesA_ (some 70) rfl rfl Try.func50 rfl #[.agg #[.int .i64 a0_0, .slice Ao88 x382001_1.length co88, .slice Ao89 x382002_1.length co89], .bool true] rfl ?_; (with_reducible refine (trustquorumref04_merged.calls k1 a0_0 _ _ x382001_1 (fun k_ => ((w.heap.size ≤ k_) ∧ (some k_ ≠ (.slice Ao88 x382001_1.length co88 : Value).ownBlock ∧ (k_ ≠ gb373 ∧ (k_ ≠ gb374 ∧ k_ ≠ gb381))))) _ _ x382002_1 true t409 t410 t413 _ ?side1 ?side2 ?side3 A86.out).mono ?_); (case side1 => exact Kd.uC ((Kd.R_reads' HO_382001.out).2.2)); (case side2 => exact (Kd.R_reads' HO_382001.out).2.1); (case side3 => exact Kd.N_V (HO_382002.out)); rintro e w94 ⟨v411, v414, rfl, ho0, ho1, hb⟩; refine ⟨_, rfl, ?_⟩; replace HO_382002 := Aside0.mk (Kd.N_elder' (Kd.uN HO_382002) (Kd.R_base ho0) hb); have HO412 := Aside0.mk (Kd.R_lower (Kd.R_new' (Kd.R_newM (M := fun k_ => (w.heap.size ≤ k_)) (Kd.R_mono (ok' := fun k_ => True) ho0 (fun _ hk_ => trivial)) (below_size (bB HB)) (fun k_ h_ => h_)) (Kd.R_lt (Kd.uR HO_382001))) (below_size (bB HB))); have HO415 := Aside0.mk (Kd.V_lower (Kd.V_mono (ok' := fun k_ => (w.heap.size ≤ k_) ∧ some k_ ≠ (v411 : Value).ownBlock ∧ some k_ ≠ (.slice Ao88 x382001_1.length co88 : Value).ownBlock ∧ k_ ≠ gb373 ∧ k_ ≠ gb374 ∧ k_ ≠ gb381) ho1 (fun k_ hk_ => ⟨Or.elim hk_.1 (fun hs_ => hs_.1) (fun hn_ => (Nat.le_trans (below_size (bB HB)) hn_)), hk_.2, Or.elim hk_.1 (fun hs_ => hs_.2.1) (fun hn_ => (Kd.fresh' (Kd.R_lt (Kd.uR HO_382001)) k_ hn_)), Or.elim hk_.1 (fun hs_ => hs_.2.2.1) (fun hn_ => (Kd.freshB (bU BK373) k_ hn_)), Or.elim hk_.1 (fun hs_ => hs_.2.2.2.1) (fun hn_ => (Kd.freshB (bU BK374) k_ hn_)), Or.elim hk_.1 (fun hs_ => hs_.2.2.2.2) (fun hn_ => (Kd.freshB (bU BK381) k_ hn_))⟩)) (below_size (bB HB))); replace HO_382001 := Aside0.mk (Kd.R_elder' (Kd.uR HO_382001) (Kd.R_base ho0) hb); replace BK373 := bb BK373 hb; replace BK374 := bb BK374 hb; replace BK381 := bb BK381 hb; replace HB := bs HB hb; (try clear hb); (try clear hb2); (try clear hk); (try clear hi); (try clear ho0); (try clear ho1); have hcz95_0 := bC0 BK381; have hcz95_1 := bC1 BK381; have hcz95_2 := bC2 BK381; have hfz95_0 := blk_frozen BK381.out 0; have hfz95_1 := blk_frozen BK381.out 1; have hfz95_2 := blk_frozen BK381.out 2; obtain ⟨Ao96, co96, eo96⟩ := Kd.R_slice HO412.out; subst eo96; obtain ⟨Ao97, co97, eo97⟩ := Kd.V_slice HO415.out; subst eo97))
        go_meet
        case rel => exact ⟨_, (t409), (t410), (t413), (.slice Ao96 t410.length co96), (.slice Ao97 t413.length co97), H', ⟨by have := HK1.out; first | omega | exact Nat.le_refl _⟩, ⟨by (with_reducible repeat (first | apply Kd.R_alloc | apply Kd.R_drewN | apply Kd.R_drew)); exact Kd.R_mono (Kd.R_ft3 (Kd.R_types HO412.out BK381.out (by decide))) (fun _ hk => hk.1.1)⟩, ⟨by (with_reducible repeat (first | apply Kd.V_alloc | apply Kd.V_drewN | apply Kd.V_drew)); exact Kd.V_mono (Kd.V_fw3 HO415.out (fun _ hk => hk.2.2.2.2.2)) (fun _ hk => ⟨hk.1, ⟨hk.2.1, ⟨hk.2.2.2.1, ⟨hk.2.2.2.2.1, hk.2.2.2.2.2⟩⟩⟩⟩)⟩, ⟨bF BK373⟩, ⟨bF BK374⟩, ⟨bP3 BK381⟩, ⟨bB HB⟩⟩
       ·rw [if_neg c85] at H
        have c85b0 : (a0_0 == t408) = false := beq_eq_false_iff_ne.mpr c85
        have c85b1 : (a0_0 != t408) = true := bne_iff_ne.mpr c85
        have H' := Aside0.mk H
        clear H
        try go_wp2
        replace HO_382001 := Aside0.mk (Kd.R_drew HO_382001.out)
        replace HO_382002 := Aside0.mk (Kd.N_drew HO_382002.out)
        replace BK373 := Aside0.mk (blk_drew BK373.out)
        replace BK374 := Aside0.mk (blk_drew BK374.out)
        replace BK381 := Aside0.mk (blk_drew BK381.out)
        replace HB := Aside0.mk (below_drew1 HB.out)
        obtain ⟨Ao99, co99, eo99⟩ := Kd.R_slice HO_382001.out
        (first | subst eo99 | (injection eo99 with f1_ f2_ f3_; have f4_ := f1_.symm; have f5_ := f3_.symm; clear f1_ f2_ f3_; subst f4_; subst f5_))
        obtain ⟨Ao100, co100, eo100⟩ := Kd.N_slice HO_382002.out
        (first | subst eo100 | (injection eo100 with f1_ f2_ f3_; have f4_ := f1_.symm; have f5_ := f3_.symm; clear f1_ f2_ f3_; subst f4_; subst f5_))
        refine start_ (n := 5) (S := fun w' => w'.cell? ⟨gb381, 0, none⟩ = some (.int .i64 a0_0) ∧ w'.cell? ⟨gb381, 1, none⟩ = some (.slice Ao99 x382001_1.length co99) ∧ w'.cell? ⟨gb381, 2, none⟩ = some (.slice Ao100 x382002_1.length co100)) (ds := []) #[false, false, false, false, false] (by kernel_rfl) rfl rfl ⟨bC0 BK381, bC1 BK381, bC2 BK381⟩ (fun hHeld => ?_)
        generalize wr.drew = w98 at HO_382001 HO_382002 BK373 BK374 BK381 HB hHeld ⊢
        refine pure_ (i := 0) (N := some 64) (v := ?_) (a' := ?_) #[true, false, false, false, false] rfl rfl (by kernel_rfl) (fun _ _ _ h => h) (Or.inl ⟨by rfl, ?_⟩) ?_ ?_
        rotate_left
        ·intro w'
         go_simp
         with_reducible rfl
        rotate_left
        ·simp only [Act.put, List.setIfInBounds_toArray, List.set_cons_zero, List.set_cons_succ, i64_w, i32_w]
         rfl
        refine take_ (i := 1) (N := some 65) (v := ?_) (a' := ?_) #[true, true, false, false, false] rfl rfl (by kernel_rfl) (fun _ _ _ h => h) (Or.inl ⟨by rfl, ?_⟩) hHeld ?_ ?_
        rotate_left
        ·rintro w' ⟨s0, s1, s2⟩
         go_simp
         with_reducible rfl
        rotate_left
        ·simp only [Act.put, List.setIfInBounds_toArray, List.set_cons_zero, List.set_cons_succ, i64_w, i32_w]
         rfl
        refine take_ (i := 2) (N := some 66) (v := ?_) (a' := ?_) #[true, true, true, false, false] rfl rfl (by kernel_rfl) (fun _ _ _ h => h) (Or.inl ⟨by rfl, ?_⟩) hHeld ?_ ?_
        rotate_left
        ·rintro w' ⟨s0, s1, s2⟩
         go_simp
         with_reducible rfl
        rotate_left
        ·simp only [Act.put, List.setIfInBounds_toArray, List.set_cons_zero, List.set_cons_succ, i64_w, i32_w]
         rfl
        refine one_ (i := 3) (N := some 67) #[true, true, true, true, false] rfl rfl (by kernel_rfl) (by decide) (fun K hK => ?_)
        refine goes_ Try.func51 (by kernel_rfl) rfl #[.agg #[.int .i64 a0_0, .slice Ao99 x382001_1.length co99, .slice Ao100 x382002_1.length co100]] (by rfl) rfl rfl (by (try simp only [List.map_toArray, List.map_cons, List.map_nil]); first | done | rfl | (simp only [List.length_drop, List.length_take]; rfl)) ?_
        with_reducible refine (trustquorumref04_count.calls a0_0 _ _ x382001_1 _ _ x382002_1 t408 _ ?side1 ?side2 ?side3 ?side4 A84.out).mono ?_
        (case side1 => exact Kd.uC ((Kd.R_reads' HO_382001.out).2.2))
        (case side2 => exact (Kd.R_reads' HO_382001.out).2.1)
        (case side3 => exact Kd.uC ((Kd.N_reads' HO_382002.out).2.2))
        (case side4 => exact (Kd.N_reads' HO_382002.out).2.1)
        rintro e w101 ⟨rfl, hb⟩
        refine ⟨_, rfl, ?_⟩
        replace HO_382001 := Kd.bR HO_382001 hb
        replace HO_382002 := Kd.bN HO_382002 hb
        replace BK373 := bb BK373 hb
        replace BK374 := bb BK374 hb
        replace BK381 := bb BK381 hb
        replace HB := bs HB hb
        (try clear hb)
        (try clear hb2)
        (try clear hk)
        (try clear hi)
        refine hK.out _ _ ⟨bC0 BK381, bC1 BK381, bC2 BK381⟩ (fun hHeld => ?_)
        clear hK K
        refine normA_ ?_
        refine pure_ (i := 4) (N := some 68) (v := ?_) (a' := ?_) #[true, true, true, true, true] rfl rfl (by kernel_rfl) (fun _ _ _ h => h) (Or.inl ⟨by rfl, ?_⟩) ?_ ?_
        rotate_left
        ·intro w'
         go_simp
         with_reducible rfl
        rotate_left
        ·simp only [Act.put, List.setIfInBounds_toArray, List.set_cons_zero, List.set_cons_succ, i64_w, i32_w]
         rfl
        refine done_ (by kernel_rfl) ?_
        try go_wp2
        go_meet
        case rel => exact ⟨_, (a0_0), (x382001_1), (x382002_1), (.slice Ao99 x382001_1.length co99), (.slice Ao100 x382002_1.length co100), H', ⟨by have := HK1.out; first | omega | exact Nat.le_refl _⟩, ⟨Kd.uR HO_382001⟩, ⟨Kd.N_V (Kd.uN HO_382002)⟩, ⟨bU BK373⟩, ⟨bU BK374⟩, ⟨bU BK381⟩, ⟨bB HB⟩⟩
     case rest =>
      clear HC69
      try clear c1
      try clear c2
      try clear p2
      try clear c3
      try clear p3
      try clear q3
      try clear hx3
      try clear qi3
      try clear c4
      try clear c5
      try clear c6
      try clear p6
      try clear c7
      try clear c8
      try clear c9
      try clear c19
      try clear c19b0
      try clear c20
      try clear c21
      try clear c38
      try clear c38b0
      try clear c38b1
      try clear c39
      try clear c39b0
      try clear c39b1
      try clear c39b2
      try clear p39
      try clear q39
      try clear hx39
      try clear qi39
      try clear c40
      try clear c49
      try clear c50
      try clear c50b0
      try clear c50b1
      try clear c51
      try clear c56
      try clear c57
      try clear c58
      try clear c59
      try clear c60
      try clear c62
      try clear c63
      try clear c64
      try clear p64
      try clear c70
      try clear c71
      try clear c73
      try clear c73b0
      try clear c73b1
      try clear c75
      try clear c76
      try clear c85
      try clear c85b0
      try clear c85b1
      try clear c91
      try clear c92
      try clear hcz61_0
      try clear hcz61_1
      try clear hcz61_2
      try clear hcz65_0
      try clear hcz65_1
      try clear hcz65_2
      try clear hcz68_0
      try clear hcz68_1
      try clear hcz68_2
      try clear hcz72_0
      try clear hcz72_1
      try clear hcz72_2
      try clear hcz77_0
      try clear hcz77_1
      try clear hcz77_2
      try clear hcz81_0
      try clear hcz81_1
      try clear hcz81_2
      try clear hcz93_0
      try clear hcz93_1
      try clear hcz93_2
      try clear hcz95_0
      try clear hcz95_1
      try clear hcz95_2
      try clear hfz61_0
      try clear hfz61_1
      try clear hfz61_2
      try clear hfz65_0
      try clear hfz65_1
      try clear hfz65_2
      try clear hfz68_0
      try clear hfz68_1
      try clear hfz68_2
      try clear hfz72_0
      try clear hfz72_1
      try clear hfz72_2
      try clear hfz77_0
      try clear hfz77_1
      try clear hfz77_2
      try clear hfz81_0
      try clear hfz81_1
      try clear hfz81_2
      try clear hfz93_0
      try clear hfz93_1
      try clear hfz93_2
      try clear hfz95_0
      try clear hfz95_1
      try clear hfz95_2
      try clear hx392_0
      try clear hx394_0
      try clear p2
      try clear p3
      try clear p39
      try clear p392
      try clear p394
      try clear q3
      try clear q39
      try clear q392
      try clear q394
      obtain ⟨kq, x382000_68, x382001_68, x382002_68, u382001, u382002, HA, HJ68, HO_382001, HO_382002, BK373, BK374, BK381, HB⟩ := hcut
      cases kq with
      | zero => exact absurd HA.out (by simp [trustquorumref04_normal.j2])
      | succ kj68 =>
       have H := HA.out
       clear HA
       simp only [trustquorumref04_normal.j2] at H
       replace H := Option.bind_eq_some_iff.mp H
       obtain ⟨⟨t416, t417, t420⟩, A1020, H⟩ := H
       replace H : (if (t417.length : Int) = 0 then (trustquorumref04_normal.j3 kj68 ((t420.length : Int) == 1) t416 t417 t420) else (trustquorumref04_normal.j3 kj68 false t416 t417 t420)) = some (r1, r2, r3) := H
       have A102 := Aside0.mk A1020
       clear A1020
       have HC103 := Aside0.mk H
       clear H
       have hnb104 := NB381_373.out
       have hnc104 := NB373_381.out
       have hnb105 := NB381_374.out
       have hnc105 := NB374_381.out
       have hcz106_0 := bC0 BK381
       have hcz106_1 := bC1 BK381
       have hcz106_2 := bC2 BK381
       have hfz106_0 := blk_frozen BK381.out 0
       have hfz106_1 := blk_frozen BK381.out 1
       have hfz106_2 := blk_frozen BK381.out 2
       obtain ⟨Ao107, co107, eo107⟩ := Kd.R_slice HO_382001.out
       subst eo107
       obtain ⟨Ao108, co108, eo108⟩ := Kd.V_slice HO_382002.out
       subst eo108
       go_upto_region 15 with (first | ((with_reducible refine gate_callee (f := 52) rfl ?_); refine goesA_ (some 72) rfl rfl Try.func52 rfl #[.agg #[.int .i64 x382000_68, .slice Ao107 x382001_68.length co107, .slice Ao108 x382002_68.length co108]] rfl ?_; (with_reducible refine (trustquorumref04_sorted.calls kj68 x382000_68 _ _ x382001_68 (fun k_ => ((w.heap.size ≤ k_) ∧ (some k_ ≠ (.slice Ao107 x382001_68.length co107 : Value).ownBlock ∧ (k_ ≠ gb373 ∧ (k_ ≠ gb374 ∧ k_ ≠ gb381))))) _ _ x382002_68 t416 t417 t420 _ ?side1 ?side2 ?side3 A102.out).mono ?_); (case side1 => exact Kd.uC ((Kd.R_reads' HO_382001.out).2.2)); (case side2 => exact (Kd.R_reads' HO_382001.out).2.1); (case side3 => exact HO_382002.out); rintro e w109 ⟨v418, v421, rfl, ho0, ho1, hb⟩; refine ⟨_, rfl, ?_⟩; replace HO_382002 := Aside0.mk (Kd.V_elder' (Kd.uV HO_382002) (Kd.R_base ho0) hb); have HO419 := Aside0.mk (Kd.R_lower (Kd.R_new' (Kd.R_newM (M := fun k_ => (w.heap.size ≤ k_)) (Kd.R_mono (ok' := fun k_ => True) ho0 (fun _ hk_ => trivial)) (below_size (bB HB)) (fun k_ h_ => h_)) (Kd.R_lt (Kd.uR HO_382001))) (below_size (bB HB))); have HO422 := Aside0.mk (Kd.V_lower (Kd.V_mono (ok' := fun k_ => (w.heap.size ≤ k_) ∧ some k_ ≠ (v418 : Value).ownBlock ∧ some k_ ≠ (.slice Ao107 x382001_68.length co107 : Value).ownBlock ∧ k_ ≠ gb373 ∧ k_ ≠ gb374 ∧ k_ ≠ gb381) ho1 (fun k_ hk_ => ⟨Or.elim hk_.1 (fun hs_ => hs_.1) (fun hn_ => (Nat.le_trans (below_size (bB HB)) hn_)), hk_.2, Or.elim hk_.1 (fun hs_ => hs_.2.1) (fun hn_ => (Kd.fresh' (Kd.R_lt (Kd.uR HO_382001)) k_ hn_)), Or.elim hk_.1 (fun hs_ => hs_.2.2.1) (fun hn_ => (Kd.freshB (bU BK373) k_ hn_)), Or.elim hk_.1 (fun hs_ => hs_.2.2.2.1) (fun hn_ => (Kd.freshB (bU BK374) k_ hn_)), Or.elim hk_.1 (fun hs_ => hs_.2.2.2.2) (fun hn_ => (Kd.freshB (bU BK381) k_ hn_))⟩)) (below_size (bB HB))); replace HO_382001 := Aside0.mk (Kd.R_elder' (Kd.uR HO_382001) (Kd.R_base ho0) hb); replace BK373 := bb BK373 hb; replace BK374 := bb BK374 hb; replace BK381 := bb BK381 hb; replace HB := bs HB hb; (try clear hb); (try clear hb2); (try clear hk); (try clear hi); (try clear ho0); (try clear ho1); have hcz110_0 := bC0 BK381; have hcz110_1 := bC1 BK381; have hcz110_2 := bC2 BK381; have hfz110_0 := blk_frozen BK381.out 0; have hfz110_1 := blk_frozen BK381.out 1; have hfz110_2 := blk_frozen BK381.out 2; obtain ⟨Ao111, co111, eo111⟩ := Kd.R_slice HO419.out; subst eo111; obtain ⟨Ao112, co112, eo112⟩ := Kd.V_slice HO422.out; subst eo112))
       (try simp only [Act.put, List.setIfInBounds_toArray, List.set_cons_zero, List.set_cons_succ])
       go_cut [82] (fun v82 wc => ∃ (kq : Nat) (x82_102 : Bool), v82 = .bool x82_102 ∧ Aside0 (trustquorumref04_normal.j3 kq x82_102 t416 t417 t420 = some (r1, r2, r3)) ∧ Aside0 (kq ≤ kj68) ∧ Aside0 (Kd.R (Kd.int .i64) 3 wc w.heap.size (fun k_ => (w.heap.size ≤ k_)) (.slice Ao111 t417.length co111) t417) ∧ Aside0 (Kd.V k27 27 wc w.heap.size (fun k_ => (w.heap.size ≤ k_) ∧ some k_ ≠ ((.slice Ao111 t417.length co111) : Value).ownBlock ∧ k_ ≠ gb373 ∧ k_ ≠ gb374 ∧ k_ ≠ gb381) (.slice Ao112 t420.length co112) t420) ∧ Aside0 (wc.heap[gb373]? = some (.cells #[.int .i64 a0_0, (.slice A0_1 l0_1.length c0_1), (.slice A0_2 l0_2.length c0_2)] 27 (0, 0))) ∧ Aside0 (wc.heap[gb374]? = some (.cells #[.int .i64 0, (.slice none 0 0), (.slice none 0 0)] 27 (0, 0))) ∧ Aside0 (wc.heap[gb381]? = some (.cells #[.int .i64 t416, (.slice Ao111 t417.length co111), (.slice Ao112 t420.length co112)] 27 (0, 0))) ∧ Aside0 (Below w.heap.size w wc))
       case first =>
        have H := HC103.out
        clear HC103
        by_cases c113 : (t417.length : Int) = 0
        ·rw [if_pos c113] at H
         have c113b0 : ((t417.length : Int) == 0) = true := beq_iff_eq.mpr c113
         have c113b1 : ((t417.length : Int) != 0) = false := bne_eq_false_iff_eq.mpr c113
         clear c113
         (first | rw [c113b0] | (simp only [i64_w, i32_w]; rw [c113b0]) | skip)
         have H' := Aside0.mk H
         clear H
         have hnb114 := NB381_373.out
         have hnc114 := NB373_381.out
         have hnb115 := NB381_374.out
         have hnc115 := NB374_381.out
         have hcz116_0 := bC0 BK381
         have hcz116_1 := bC1 BK381
         have hcz116_2 := bC2 BK381
         have hfz116_0 := blk_frozen BK381.out 0
         have hfz116_1 := blk_frozen BK381.out 1
         have hfz116_2 := blk_frozen BK381.out 2
         go_wp2
         go_meet
         case rel => exact ⟨_, (((t420.length : Int) == 1)), (by first | rfl | (simp; done) | (simp [*]; done)), H', ⟨by have := HK1.out; have := HJ68.out; first | omega | exact Nat.le_refl _⟩, ⟨by (with_reducible repeat (first | apply Kd.R_alloc | apply Kd.R_drewN | apply Kd.R_drew)); exact Kd.R_mono (Kd.R_ft3 (Kd.R_types HO419.out BK381.out (by decide))) (fun _ hk => hk.1.1)⟩, ⟨by (with_reducible repeat (first | apply Kd.V_alloc | apply Kd.V_drewN | apply Kd.V_drew)); exact Kd.V_mono (Kd.V_fw3 HO422.out (fun _ hk => hk.2.2.2.2.2)) (fun _ hk => ⟨hk.1, ⟨hk.2.1, ⟨hk.2.2.2.1, ⟨hk.2.2.2.2.1, hk.2.2.2.2.2⟩⟩⟩⟩)⟩, ⟨bF BK373⟩, ⟨bF BK374⟩, ⟨bP3 BK381⟩, ⟨bB HB⟩⟩
        ·rw [if_neg c113] at H
         have c113b0 : ((t417.length : Int) == 0) = false := beq_eq_false_iff_ne.mpr c113
         have c113b1 : ((t417.length : Int) != 0) = true := bne_iff_ne.mpr c113
         have c113b2 : ¬ (t417 = []) := fun h_ => c113 (by rw [h_]; rfl)
         (first | rw [c113b0] | (simp only [i64_w, i32_w]; rw [c113b0]) | skip)
         have H' := Aside0.mk H
         clear H
         have hnb117 := NB381_373.out
         have hnc117 := NB373_381.out
         have hnb118 := NB381_374.out
         have hnc118 := NB374_381.out
         have hcz119_0 := bC0 BK381
         have hcz119_1 := bC1 BK381
         have hcz119_2 := bC2 BK381
         have hfz119_0 := blk_frozen BK381.out 0
         have hfz119_1 := blk_frozen BK381.out 1
         have hfz119_2 := blk_frozen BK381.out 2
         go_wp2
         go_meet
         case rel => exact ⟨_, (false), (by first | rfl | (simp; done) | (simp [*]; done)), H', ⟨by have := HK1.out; have := HJ68.out; first | omega | exact Nat.le_refl _⟩, ⟨by (with_reducible repeat (first | apply Kd.R_alloc | apply Kd.R_drewN | apply Kd.R_drew)); exact Kd.R_mono (Kd.R_ft3 (Kd.R_types HO419.out BK381.out (by decide))) (fun _ hk => hk.1.1)⟩, ⟨by (with_reducible repeat (first | apply Kd.V_alloc | apply Kd.V_drewN | apply Kd.V_drew)); exact Kd.V_mono (Kd.V_fw3 HO422.out (fun _ hk => hk.2.2.2.2.2)) (fun _ hk => ⟨hk.1, ⟨hk.2.1, ⟨hk.2.2.2.1, ⟨hk.2.2.2.2.1, hk.2.2.2.2.2⟩⟩⟩⟩)⟩, ⟨bF BK373⟩, ⟨bF BK374⟩, ⟨bP3 BK381⟩, ⟨bB HB⟩⟩
       case rest =>
        clear HC103
        try clear c1
        try clear c2
        try clear p2
        try clear c3
        try clear p3
        try clear q3
        try clear hx3
        try clear qi3
        try clear c4
        try clear c5
        try clear c6
        try clear p6
        try clear c7
        try clear c8
        try clear c9
        try clear c10
        try clear c11
        try clear c19
        try clear c19b0
        try clear c20
        try clear c21
        try clear c38
        try clear c38b0
        try clear c38b1
        try clear c39
        try clear c39b0
        try clear c39b1
        try clear c39b2
        try clear p39
        try clear q39
        try clear hx39
        try clear qi39
        try clear c40
        try clear c49
        try clear c50
        try clear c50b0
        try clear c50b1
        try clear c51
        try clear c52
        try clear c56
        try clear c57
        try clear c58
        try clear c59
        try clear c60
        try clear c62
        try clear c63
        try clear c64
        try clear p64
        try clear c70
        try clear c71
        try clear c73
        try clear c73b0
        try clear c73b1
        try clear c75
        try clear c76
        try clear c85
        try clear c85b0
        try clear c85b1
        try clear c91
        try clear c92
        try clear c104
        try clear c105
        try clear c113
        try clear c113b0
        try clear c113b1
        try clear c113b2
        try clear c114
        try clear c115
        try clear c117
        try clear c118
        try clear hcz106_0
        try clear hcz106_1
        try clear hcz106_2
        try clear hcz110_0
        try clear hcz110_1
        try clear hcz110_2
        try clear hcz116_0
        try clear hcz116_1
        try clear hcz116_2
        try clear hcz119_0
        try clear hcz119_1
        try clear hcz119_2
        try clear hcz61_0
        try clear hcz61_1
        try clear hcz61_2
        try clear hcz65_0
        try clear hcz65_1
        try clear hcz65_2
        try clear hcz68_0
        try clear hcz68_1
        try clear hcz68_2
        try clear hcz72_0
        try clear hcz72_1
        try clear hcz72_2
        try clear hcz77_0
        try clear hcz77_1
        try clear hcz77_2
        try clear hcz81_0
        try clear hcz81_1
        try clear hcz81_2
        try clear hcz93_0
        try clear hcz93_1
        try clear hcz93_2
        try clear hcz95_0
        try clear hcz95_1
        try clear hcz95_2
        try clear hfz106_0
        try clear hfz106_1
        try clear hfz106_2
        try clear hfz110_0
        try clear hfz110_1
        try clear hfz110_2
        try clear hfz116_0
        try clear hfz116_1
        try clear hfz116_2
        try clear hfz119_0
        try clear hfz119_1
        try clear hfz119_2
        try clear hfz61_0
        try clear hfz61_1
        try clear hfz61_2
        try clear hfz65_0
        try clear hfz65_1
        try clear hfz65_2
        try clear hfz68_0
        try clear hfz68_1
        try clear hfz68_2
        try clear hfz72_0
        try clear hfz72_1
        try clear hfz72_2
        try clear hfz77_0
        try clear hfz77_1
        try clear hfz77_2
        try clear hfz81_0
        try clear hfz81_1
        try clear hfz81_2
        try clear hfz93_0
        try clear hfz93_1
        try clear hfz93_2
        try clear hfz95_0
        try clear hfz95_1
        try clear hfz95_2
        try clear hx392_0
        try clear hx394_0
        try clear p2
        try clear p3
        try clear p39
        try clear p392
        try clear p394
        try clear p6
        try clear p64
        try clear q3
        try clear q39
        try clear q392
        try clear q394
        obtain ⟨kq, x82_102, rfl, HA, HJ102, HO_382001, HO_382002, BK373, BK374, BK381, HB⟩ := hcut
        cases kq with
        | zero => exact absurd HA.out (by simp [trustquorumref04_normal.j3])
        | succ kj102 =>
         have H := HA.out
         clear HA
         simp only [trustquorumref04_normal.j3] at H
         by_cases c120 : x82_102 = true
         ·subst c120
          have H1 : (if 0 < (t420.length : Int) then (some ((rd_T27 t420 0).f0, (rd_T27 t420 0).f1, (rd_T27 t420 0).f2)) else (none)) = some (r1, r2, r3) := by rw [if_pos rfl] at H; exact H
          clear H
          have H := H1
          clear H1
          by_cases c121 : 0 < (t420.length : Int)
          ·rw [if_pos c121] at H
           have c121b0 : decide (0 < (t420.length : Int)) = true := decide_eq_true c121
           have c121b1 : decide (0 < t420.length) = true := decide_eq_true (by omega)
           clear c121
           simp only [Option.some.injEq, Prod.mk.injEq] at H
           obtain ⟨rfl, rfl, rfl⟩ := H
           have hnb122 := NB381_373.out
           have hnc122 := NB373_381.out
           have hnb123 := NB381_374.out
           have hnc123 := NB374_381.out
           have hcz124_0 := bC0 BK381
           have hcz124_1 := bC1 BK381
           have hcz124_2 := bC2 BK381
           have hfz124_0 := blk_frozen BK381.out 0
           have hfz124_1 := blk_frozen BK381.out 1
           have hfz124_2 := blk_frozen BK381.out 2
           have p423 : 0 ≤ (0 : Int) := (by omega)
           have q423 : 0 < (t420.length : Int) := of_decide_eq_true (by first | (with_reducible assumption) | assumption)
           obtain ⟨ad423, A423_1, c423_1, A423_2, c423_2, e423, hx423_0, hx423_1, hx423_2, hl423_1, hi423_1, hl423_2, hi423_2⟩ := at_T27 (Kd.V_reads' HO_382002.out).2.2 0 p423 q423
           cases e423
           obtain ⟨ce423, hce423, hMe423, hcc423⟩ := Kd.V_get HO_382002.out z27 0 p423 (by first | exact q423 | exact of_decide_eq_true (by first | (with_reducible assumption) | assumption) | (have e_ := (Kd.V_reads' HO_382002.out).1; omega))
           obtain ⟨ua423_1, uc423_1, ua423_2, uc423_2, rfl, ul423_1, ge423_1, ul423_2, ge423_2⟩ := k27_openF hMe423
           have hv423_1 := hcc423 1 _ rfl
           rw [add_field _ _ 1 (by omega)] at hv423_1
           replace hv423_1 := Option.some.inj (hv423_1.symm.trans hx423_1)
           injection hv423_1 with hva_ hvn_ hvc_
           rw [hva_] at ge423_1
           rw [hvc_] at ul423_1
           have HL423_1 := Aside0.mk (show Kd.V (Kd.int .i64) 3 _ w.heap.size _ _ ((rd_T27 t420 0).f1) from Kd.V_mk ul423_1 ge423_1)
           clear hva_ hvn_ hvc_ ge423_1 ul423_1
           have hv423_2 := hcc423 2 _ rfl
           rw [add_field _ _ 2 (by omega)] at hv423_2
           replace hv423_2 := Option.some.inj (hv423_2.symm.trans hx423_2)
           injection hv423_2 with hva_ hvn_ hvc_
           rw [hva_] at ge423_2
           rw [hvc_] at ul423_2
           have HL423_2 := Aside0.mk (show Kd.V k27 27 _ w.heap.size _ _ ((rd_T27 t420 0).f2) from Kd.V_mk ul423_2 ge423_2)
           clear hva_ hvn_ hvc_ ge423_2 ul423_2
           clear hcc423 hce423
           have qi423 : (0 < t420.length) = True := eq_true (by omega)
           (try rw [show ((0 : Int)).toNat = 0 from rfl] at hx423_0)
           (try rw [show 0 * 3 = 0 from rfl] at hx423_0)
           (try rw [Addr.add_zero'] at hx423_0)
           (try rw [show ((0 : Int)).toNat = 0 from rfl] at hx423_1)
           (try rw [show 0 * 3 = 0 from rfl] at hx423_1)
           (try rw [Addr.add_zero'] at hx423_1)
           (try rw [show ((0 : Int)).toNat = 0 from rfl] at hx423_2)
           (try rw [show 0 * 3 = 0 from rfl] at hx423_2)
           (try rw [Addr.add_zero'] at hx423_2)
           have HR423_1 := Aside0.mk hi423_1
           have HC423_1 := Aside0.mk hl423_1
           clear hi423_1 hl423_1
           have HR423_2 := Aside0.mk hi423_2
           have HC423_2 := Aside0.mk hl423_2
           clear hi423_2 hl423_2
           replace p423 := eq_true p423
           replace q423 := eq_true q423
           have hnb125 := NB374_373.out
           have hnc125 := NB373_374.out
           have hcz126_0 := bC0 BK374
           have hcz126_1 := bC1 BK374
           have hcz126_2 := bC2 BK374
           have hfz126_0 := blk_frozen BK374.out 0
           have hfz126_1 := blk_frozen BK374.out 1
           have hfz126_2 := blk_frozen BK374.out 2
           go_wp2
           refine bodyPost_ret (results_cell_row rfl _ _ gb374 27 #[.int .i64 ((rd_T27 t420 0).f0), .slice A423_1 ((rd_T27 t420 0).f1).length c423_1, .slice A423_2 ((rd_T27 t420 0).f2).length c423_2] (0, 0) _ rfl (bP3 BK374) Try.underlying27 rfl (by kernel_rfl)) rfl ?_
           exact ⟨_, _, by first | rfl | (simp [errW_none, errW_some] <;> rfl) | (simp [*, errW_none, errW_some] <;> rfl), by (with_reducible repeat (first | apply Kd.V_alloc | apply Kd.V_drewN | apply Kd.V_drew)); exact Kd.V_mono (Kd.V_fw3 HL423_1.out (fun _ hk => hk.2.2.2.1)) (fun _ hk => hk.1), by (with_reducible repeat (first | apply Kd.V_alloc | apply Kd.V_drewN | apply Kd.V_drew)); exact Kd.V_mono (Kd.V_fw3 HL423_2.out (fun _ hk => hk.2.2.2.1)) (fun _ hk => hk.1), bB HB⟩
          ·rw [if_neg c121] at H
           exact absurd H (by simp)
         ·replace c120 := Bool.eq_false_iff.mpr c120
          subst c120
          have H1 : (some (t416, t417, t420)) = some (r1, r2, r3) := by rw [if_neg (show ¬ (false = true) by decide)] at H; exact H
          clear H
          have H := H1
          clear H1
          simp only [Option.some.injEq, Prod.mk.injEq] at H
          obtain ⟨rfl, rfl, rfl⟩ := H
          have hnb127 := NB381_373.out
          have hnc127 := NB373_381.out
          have hnb128 := NB381_374.out
          have hnc128 := NB374_381.out
          have hcz129_0 := bC0 BK381
          have hcz129_1 := bC1 BK381
          have hcz129_2 := bC2 BK381
          have hfz129_0 := blk_frozen BK381.out 0
          have hfz129_1 := blk_frozen BK381.out 1
          have hfz129_2 := blk_frozen BK381.out 2
          have hnb130 := NB374_373.out
          have hnc130 := NB373_374.out
          have hcz131_0 := bC0 BK374
          have hcz131_1 := bC1 BK374
          have hcz131_2 := bC2 BK374
          have hfz131_0 := blk_frozen BK374.out 0
          have hfz131_1 := blk_frozen BK374.out 1
          have hfz131_2 := blk_frozen BK374.out 2
          go_wp2
          refine bodyPost_ret (results_cell_row rfl _ _ gb374 27 #[.int .i64 t416, .slice Ao111 t417.length co111, .slice Ao112 t420.length co112] (0, 0) _ rfl (bP3 BK374) Try.underlying27 rfl (by kernel_rfl)) rfl ?_
          exact ⟨_, _, by first | rfl | (simp [errW_none, errW_some] <;> rfl) | (simp [*, errW_none, errW_some] <;> rfl), Kd.R_V (by (with_reducible repeat (first | apply Kd.R_alloc | apply Kd.R_drewN | apply Kd.R_drew)); exact Kd.R_ft3 (Kd.R_types HO_382001.out BK374.out (by decide))), by (with_reducible repeat (first | apply Kd.V_alloc | apply Kd.V_drewN | apply Kd.V_drew)); exact Kd.V_mono (Kd.V_fw3 HO_382002.out (fun _ hk => hk.2.2.2.1)) (fun _ hk => hk.1), bB HB⟩
 ·rw [if_neg c2] at H
  exact absurd H (by simp)
end Go.Proofs.Ytfkpimjiaijmgaa.G
end
section
namespace Go.Proofs.Ytfkpimjiaijmgaa.G
open Go.RowKit Go.Proofs.YtfkpimjiaijmgaaW.PrintWords Go.Proofs.YtfkpimjiaijmgaaW.PrintLast Go.Proofs.YtfkpimjiaijmgaaW.PrintMore
attribute [local go_sem] max2_int min2_int max_two min_two max_three min_three max_four min_four   -- for this text's walks alone
set_option linter.unusedVariables false
set_option linter.unusedSimpArgs false
def trustquorumref04_Normal.f (k : Nat) (a0_0 : Int) (l0_1 : List Int) (l0_2 : List (S27)) : Option (Int × List Int × (List (S27)) × Int) := (trustquorumref02_Valid.f k a0_0 l0_1 l0_2).bind fun t426 => (if t426 = 0 then ((trustquorumref04_normal.f k a0_0 l0_1 l0_2).bind fun bt427 => (some (bt427.1, bt427.2.1, bt427.2.2, 0))) else (some (0, ([] : List Int), ([] : List (S27)), t426)))
set_option maxHeartbeats 8000000 in
set_option maxRecDepth 100000 in
theorem trustquorumref04_Normal.calls (k : Nat) (a0_0 : Int) (A0_1 : Option Addr) (c0_1 : Nat) (l0_1 : List Int) (A0_2 : Option Addr) (c0_2 : Nat) (l0_2 : List (S27)) (r1 : Int) (r2 : List Int) (r3 : List (S27)) (r4 : Int) (w : World) (hr0_1 : Kd.C (Kd.int .i64) w A0_1 l0_1.length l0_1) (hc0_1 : l0_1.length ≤ c0_1) (hr0_2 : Kd.C k27 w A0_2 l0_2.length l0_2) (hc0_2 : l0_2.length ≤ c0_2) (h : trustquorumref04_Normal.f k a0_0 l0_1 l0_2 = some (r1, r2, r3, r4)) :
 Calls Try.prog 17 #[.agg #[.int .i64 a0_0, .slice A0_1 l0_1.length c0_1, .slice A0_2 l0_2.length c0_2]] w fun e w' => ∃ v1_ v2_ : Value, e = .returned (.tuple #[.agg #[.int .i64 r1, v1_, v2_], .int .i64 r4]) ∧ Kd.V (Kd.int .i64) 3 w' w.heap.size (fun k_ => (w.heap.size ≤ k_)) v1_ r2 ∧ Kd.V k27 27 w' w.heap.size (fun k_ => (w.heap.size ≤ k_)) v2_ r3 ∧ Below w.heap.size w w' := by
 have hu27 := Try.underlying27
 have HR0_1 := Aside0.mk hr0_1
 have HC0_1 := Aside0.mk hc0_1
 clear hr0_1 hc0_1
 have HR0_2 := Aside0.mk hr0_2
 have HC0_2 := Aside0.mk hc0_2
 clear hr0_2 hc0_2
 have HB := Aside0.mk (Below.refl w.heap.size w)
 have H : ((trustquorumref02_Valid.f k a0_0 l0_1 l0_2).bind fun t426 => (if t426 = 0 then ((trustquorumref04_normal.f k a0_0 l0_1 l0_2).bind fun bt427 => (some (bt427.1, bt427.2.1, bt427.2.2, 0))) else (some (0, ([] : List Int), ([] : List (S27)), t426)))) = some (r1, r2, r3, r4) := h
 clear h
 replace H := Option.bind_eq_some_iff.mp H
 obtain ⟨t426, A20, H⟩ := H
 replace H : (if t426 = 0 then ((trustquorumref04_normal.f k a0_0 l0_1 l0_2).bind fun bt427 => (some (bt427.1, bt427.2.1, bt427.2.2, 0))) else (some (0, ([] : List Int), ([] : List (S27)), t426))) = some (r1, r2, r3, r4) := H
 have A2 := Aside0.mk A20
 clear A20
 by_cases c3 : t426 = 0
 ·rw [if_pos c3] at H
  have c3b0 : (t426 == 0) = true := beq_iff_eq.mpr c3
  have c3b1 : (t426 != 0) = false := bne_eq_false_iff_eq.mpr c3
  clear c3
  replace H := Option.bind_eq_some_iff.mp H
  obtain ⟨⟨t427, t428, t431⟩, A40, H⟩ := H
  replace H : (some (t427, t428, t431, 0)) = some (r1, r2, r3, r4) := H
  have A4 := Aside0.mk A40
  clear A40
  simp only [Option.some.injEq, Prod.mk.injEq] at H
  obtain ⟨rfl, rfl, rfl, rfl⟩ := H
  go_enter Try.func17, Try.ntmps17
  go_wp2_with (first | ((with_reducible refine gate_dst (N := 1) rfl ?_); refine box_event ?hg (N := 1) ?hd (cs := #[.int .i64 a0_0, .slice A0_1 l0_1.length c0_1, .slice A0_2 l0_2.length c0_2]) (t := 27) ?hr ?_; (case hd => rfl); (case hg => rfl); (case hr => first | (go_simp; done) | (go_simp; rfl)); intro gb424 hg w5 hbox hb; have BK424 := Aside0.mk (hbox); have GW424 := Aside0.mk ((by rw [hg]; exact (below_size (bB HB)) : w.heap.size ≤ gb424)); have GE424 := Aside0.mk ((by rw [hg]; exact (below_size (bB HB)) : w.heap.size ≤ gb424)); replace HB := bs HB hb; clear hb hbox hg) | ((with_reducible refine gate_dst (N := 2) rfl ?_); refine box_event ?hg (N := 2) ?hd (cs := #[.int .i64 0, .slice none 0 0, .slice none 0 0]) (t := 27) ?hr ?_; (case hd => rfl); (case hg => rfl); (case hr => first | (go_simp; done) | (go_simp; rfl)); intro gb425 hg w6 hbox hb; have BK425 := Aside0.mk (hbox); have GW425 := Aside0.mk ((by rw [hg]; exact (below_size (bB HB)) : w.heap.size ≤ gb425)); have GE425 := Aside0.mk ((by rw [hg]; exact (below_size (bB HB)) : w.heap.size ≤ gb425)); replace HB := bs HB hb; have NB424_425 := Aside0.mk ((by rw [hg]; exact Nat.ne_of_lt (blk_lt (bU BK424)) : gb424 ≠ gb425)); have NB425_424 := Aside0.mk ((by rw [hg]; exact Nat.ne_of_gt (blk_lt (bU BK424)) : gb425 ≠ gb424)); replace BK424 := bb BK424 hb; clear hb hbox hg; have hnb7 := NB424_425.out; have hnc7 := NB425_424.out; have hcz8_0 := bC0 BK424; have hcz8_1 := bC1 BK424; have hcz8_2 := bC2 BK424; have hfz8_0 := blk_frozen BK424.out 0; have hfz8_1 := blk_frozen BK424.out 1; have hfz8_2 := blk_frozen BK424.out 2) | ((with_reducible refine gate_callee (f := 21) rfl ?_); refine goesA_ (some 6) rfl rfl Try.func21 rfl #[.agg #[.int .i64 a0_0, .slice A0_1 l0_1.length c0_1, .slice A0_2 l0_2.length c0_2]] rfl ?_; (with_reducible refine (trustquorumref02_Valid.calls k a0_0 _ _ l0_1 _ _ l0_2 t426 _ ?side1 ?side2 ?side3 ?side4 A2.out).mono ?_); (case side1 => exact Kd.uC (Kd.C_below HR0_1.out HB.out)); (case side2 => exact HC0_1.out); (case side3 => exact Kd.uC (Kd.C_below HR0_2.out HB.out)); (case side4 => exact HC0_2.out); rintro e w9 ⟨rfl, hb⟩; refine ⟨_, rfl, ?_⟩; replace BK424 := bb BK424 hb; replace BK425 := bb BK425 hb; replace HB := bs HB hb; (try clear hb); (try clear hb2); (try clear hk); (try clear hi); have hcz10_0 := bC0 BK424; have hcz10_1 := bC1 BK424; have hcz10_2 := bC2 BK424; have hfz10_0 := blk_frozen BK424.out 0; have hfz10_1 := blk_frozen BK424.out 1; have hfz10_2 := blk_frozen BK424.out 2) | ((with_reducible refine gate_callee (f := 31) rfl ?_); refine goesA_ (some 12) rfl rfl Try.func31 rfl #[.agg #[.int .i64 a0_0, .slice A0_1 l0_1.length c0_1, .slice A0_2 l0_2.length c0_2]] rfl ?_; (with_reducible refine (trustquorumref04_normal.calls k a0_0 _ _ l0_1 _ _ l0_2 t427 t428 t431 _ ?side1 ?side2 ?side3 ?side4 A4.out).mono ?_); (case side1 => exact Kd.uC (Kd.C_below HR0_1.out HB.out)); (case side2 => exact HC0_1.out); (case side3 => exact Kd.uC (Kd.C_below HR0_2.out HB.out)); (case side4 => exact HC0_2.out); rintro e w11 ⟨v429, v432, rfl, ho0, ho1, hb⟩; refine ⟨_, rfl, ?_⟩; have HO430 := Aside0.mk (Kd.V_lower (Kd.V_mono (ok' := fun k_ => (w.heap.size ≤ k_) ∧ k_ ≠ gb424 ∧ k_ ≠ gb425) ho0 (fun k_ hk_ => ⟨(Nat.le_trans (below_size (bB HB)) hk_), (Kd.freshB (bU BK424) k_ hk_), (Kd.freshB (bU BK425) k_ hk_)⟩)) (below_size (bB HB))); have HO433 := Aside0.mk (Kd.V_lower (Kd.V_mono (ok' := fun k_ => (w.heap.size ≤ k_) ∧ k_ ≠ gb424 ∧ k_ ≠ gb425) ho1 (fun k_ hk_ => ⟨(Nat.le_trans (below_size (bB HB)) hk_), (Kd.freshB (bU BK424) k_ hk_), (Kd.freshB (bU BK425) k_ hk_)⟩)) (below_size (bB HB))); replace BK424 := bb BK424 hb; replace BK425 := bb BK425 hb; replace HB := bs HB hb; (try clear hb); (try clear hb2); (try clear hk); (try clear hi); (try clear ho0); (try clear ho1); have hcz12_0 := bC0 BK425; have hcz12_1 := bC1 BK425; have hcz12_2 := bC2 BK425; have hfz12_0 := blk_frozen BK425.out 0; have hfz12_1 := blk_frozen BK425.out 1; have hfz12_2 := blk_frozen BK425.out 2; obtain ⟨Ao13, co13, eo13⟩ := Kd.V_slice HO430.out; subst eo13; obtain ⟨Ao14, co14, eo14⟩ := Kd.V_slice HO433.out; subst eo14))
  refine bodyPost_ret (results_ct rfl _ _ gb425 27 #[.int .i64 t427, .slice Ao13 t428.length co13, .slice Ao14 t431.length co14] (0, 0) _ rfl (bP3 BK425) Try.underlying27 rfl (by kernel_rfl)) rfl ?_
  exact ⟨_, _, by first | rfl | (simp [errW_none, errW_some] <;> rfl) | (simp [*, errW_none, errW_some] <;> rfl), by (with_reducible repeat (first | apply Kd.V_alloc | apply Kd.V_drewN | apply Kd.V_drew)); exact Kd.V_mono (Kd.V_fw3 HO430.out (fun _ hk => hk.2.2)) (fun _ hk => hk.1), by (with_reducible repeat (first | apply Kd.V_alloc | apply Kd.V_drewN | apply Kd.V_drew)); exact Kd.V_mono (Kd.V_fw3 HO433.out (fun _ hk => hk.2.2)) (fun _ hk => hk.1), bB HB⟩
 ·rw [if_neg c3] at H
  have c3b0 : (t426 == 0) = false := beq_eq_false_iff_ne.mpr c3
  have c3b1 : (t426 != 0) = true := bne_iff_ne.mpr c3
  simp only [Option.some.injEq, Prod.mk.injEq] at H
  obtain ⟨rfl, rfl, rfl, rfl⟩ := H
  go_enter Try.func17, Try.ntmps17
  go_wp2_with (first | ((with_reducible refine gate_dst (N := 1) rfl ?_); refine box_event ?hg (N := 1) ?hd (cs := #[.int .i64 a0_0, .slice A0_1 l0_1.length c0_1, .slice A0_2 l0_2.length c0_2]) (t := 27) ?hr ?_; (case hd => rfl); (case hg => rfl); (case hr => first | (go_simp; done) | (go_simp; rfl)); intro gb424 hg w15 hbox hb; have BK424 := Aside0.mk (hbox); have GW424 := Aside0.mk ((by rw [hg]; exact (below_size (bB HB)) : w.heap.size ≤ gb424)); have GE424 := Aside0.mk ((by rw [hg]; exact (below_size (bB HB)) : w.heap.size ≤ gb424)); replace HB := bs HB hb; clear hb hbox hg) | ((with_reducible refine gate_dst (N := 2) rfl ?_); refine box_event ?hg (N := 2) ?hd (cs := #[.int .i64 0, .slice none 0 0, .slice none 0 0]) (t := 27) ?hr ?_; (case hd => rfl); (case hg => rfl); (case hr => first | (go_simp; done) | (go_simp; rfl)); intro gb425 hg w16 hbox hb; have BK425 := Aside0.mk (hbox); have GW425 := Aside0.mk ((by rw [hg]; exact (below_size (bB HB)) : w.heap.size ≤ gb425)); have GE425 := Aside0.mk ((by rw [hg]; exact (below_size (bB HB)) : w.heap.size ≤ gb425)); replace HB := bs HB hb; have NB424_425 := Aside0.mk ((by rw [hg]; exact Nat.ne_of_lt (blk_lt (bU BK424)) : gb424 ≠ gb425)); have NB425_424 := Aside0.mk ((by rw [hg]; exact Nat.ne_of_gt (blk_lt (bU BK424)) : gb425 ≠ gb424)); replace BK424 := bb BK424 hb; clear hb hbox hg; have hnb17 := NB424_425.out; have hnc17 := NB425_424.out; have hcz18_0 := bC0 BK424; have hcz18_1 := bC1 BK424; have hcz18_2 := bC2 BK424; have hfz18_0 := blk_frozen BK424.out 0; have hfz18_1 := blk_frozen BK424.out 1; have hfz18_2 := blk_frozen BK424.out 2) | ((with_reducible refine gate_callee (f := 21) rfl ?_); refine goesA_ (some 6) rfl rfl Try.func21 rfl #[.agg #[.int .i64 a0_0, .slice A0_1 l0_1.length c0_1, .slice A0_2 l0_2.length c0_2]] rfl ?_; (with_reducible refine (trustquorumref02_Valid.calls k a0_0 _ _ l0_1 _ _ l0_2 t426 _ ?side1 ?side2 ?side3 ?side4 A2.out).mono ?_); (case side1 => exact Kd.uC (Kd.C_below HR0_1.out HB.out)); (case side2 => exact HC0_1.out); (case side3 => exact Kd.uC (Kd.C_below HR0_2.out HB.out)); (case side4 => exact HC0_2.out); rintro e w19 ⟨rfl, hb⟩; refine ⟨_, rfl, ?_⟩; replace BK424 := bb BK424 hb; replace BK425 := bb BK425 hb; replace HB := bs HB hb; (try clear hb); (try clear hb2); (try clear hk); (try clear hi); have hcz20_0 := bC0 BK425; have hcz20_1 := bC1 BK425; have hcz20_2 := bC2 BK425; have hfz20_0 := blk_frozen BK425.out 0; have hfz20_1 := blk_frozen BK425.out 1; have hfz20_2 := blk_frozen BK425.out 2))
  refine bodyPost_ret (results_ct rfl _ _ gb425 27 #[.int .i64 0, .slice none 0 0, .slice none 0 0] (0, 0) _ rfl (bP3 BK425) Try.underlying27 rfl (by kernel_rfl)) rfl ?_
  exact ⟨_, _, by first | rfl | (simp [errW_none, errW_some] <;> rfl) | (simp [*, errW_none, errW_some] <;> rfl), Kd.V_nil _ _ _ _ _, Kd.V_nil _ _ _ _ _, bB HB⟩
def slices_valid.f (k : Nat) (a0_0 : Int) (l0_1 : List Int) (l0_2 : List (S27)) (a1_0 : Int) (l1_1 : List Int) (l1_2 : List (S27)) : Option (Int) := (threshold_Valid.f k a0_0 l0_1 l0_2).bind fun t436 => (if t436 = 0 then ((threshold_Valid.f k a1_0 l1_1 l1_2).bind fun t437 => (some t437)) else (some t436))
set_option maxHeartbeats 8000000 in
set_option maxRecDepth 100000 in
theorem slices_valid.calls (k : Nat) (a0_0 : Int) (A0_1 : Option Addr) (c0_1 : Nat) (l0_1 : List Int) (A0_2 : Option Addr) (c0_2 : Nat) (l0_2 : List (S27)) (a1_0 : Int) (A1_1 : Option Addr) (c1_1 : Nat) (l1_1 : List Int) (A1_2 : Option Addr) (c1_2 : Nat) (l1_2 : List (S27)) (r : Int) (w : World) (hr0_1 : Kd.C (Kd.int .i64) w A0_1 l0_1.length l0_1) (hc0_1 : l0_1.length ≤ c0_1) (hr0_2 : Kd.C k27 w A0_2 l0_2.length l0_2) (hc0_2 : l0_2.length ≤ c0_2) (hr1_1 : Kd.C (Kd.int .i64) w A1_1 l1_1.length l1_1) (hc1_1 : l1_1.length ≤ c1_1) (hr1_2 : Kd.C k27 w A1_2 l1_2.length l1_2) (hc1_2 : l1_2.length ≤ c1_2) (h : slices_valid.f k a0_0 l0_1 l0_2 a1_0 l1_1 l1_2 = some r) :
 Calls Try.prog 32 #[.agg #[.int .i64 a0_0, .slice A0_1 l0_1.length c0_1, .slice A0_2 l0_2.length c0_2], .agg #[.int .i64 a1_0, .slice A1_1 l1_1.length c1_1, .slice A1_2 l1_2.length c1_2]] w fun e w' => e = .returned (.int .i64 r) ∧ Below w.heap.size w w' := by
 have hu27 := Try.underlying27
 have HR0_1 := Aside0.mk hr0_1
 have HC0_1 := Aside0.mk hc0_1
 clear hr0_1 hc0_1
 have HR0_2 := Aside0.mk hr0_2
 have HC0_2 := Aside0.mk hc0_2
 clear hr0_2 hc0_2
 have HR1_1 := Aside0.mk hr1_1
 have HC1_1 := Aside0.mk hc1_1
 clear hr1_1 hc1_1
 have HR1_2 := Aside0.mk hr1_2
 have HC1_2 := Aside0.mk hc1_2
 clear hr1_2 hc1_2
 have HB := Aside0.mk (Below.refl w.heap.size w)
 have H : ((threshold_Valid.f k a0_0 l0_1 l0_2).bind fun t436 => (if t436 = 0 then ((threshold_Valid.f k a1_0 l1_1 l1_2).bind fun t437 => (some t437)) else (some t436))) = some r := h
 clear h
 replace H := Option.bind_eq_some_iff.mp H
 obtain ⟨t436, A30, H⟩ := H
 replace H : (if t436 = 0 then ((threshold_Valid.f k a1_0 l1_1 l1_2).bind fun t437 => (some t437)) else (some t436)) = some r := H
 have A3 := Aside0.mk A30
 clear A30
 by_cases c4 : t436 = 0
 ·rw [if_pos c4] at H
  have c4b0 : (t436 == 0) = true := beq_iff_eq.mpr c4
  have c4b1 : (t436 != 0) = false := bne_eq_false_iff_eq.mpr c4
  clear c4
  replace H := Option.bind_eq_some_iff.mp H
  obtain ⟨t437, A50, H⟩ := H
  replace H : (some t437) = some r := H
  have A5 := Aside0.mk A50
  clear A50
  obtain rfl := Option.some.inj H
  go_enter Try.func32, Try.ntmps32
  go_wp2_with (first | ((with_reducible refine gate_dst (N := 2) rfl ?_); refine box_event ?hg (N := 2) ?hd (cs := #[.int .i64 a0_0, .slice A0_1 l0_1.length c0_1, .slice A0_2 l0_2.length c0_2]) (t := 27) ?hr ?_; (case hd => rfl); (case hg => rfl); (case hr => first | (go_simp; done) | (go_simp; rfl)); intro gb434 hg w6 hbox hb; have BK434 := Aside0.mk (hbox); have GW434 := Aside0.mk ((by rw [hg]; exact (below_size (bB HB)) : w.heap.size ≤ gb434)); have GE434 := Aside0.mk ((by rw [hg]; exact (below_size (bB HB)) : w.heap.size ≤ gb434)); replace HB := bs HB hb; clear hb hbox hg) | ((with_reducible refine gate_dst (N := 3) rfl ?_); refine box_event ?hg (N := 3) ?hd (cs := #[.int .i64 a1_0, .slice A1_1 l1_1.length c1_1, .slice A1_2 l1_2.length c1_2]) (t := 27) ?hr ?_; (case hd => rfl); (case hg => rfl); (case hr => first | (go_simp; done) | (go_simp; rfl)); intro gb435 hg w7 hbox hb; have BK435 := Aside0.mk (hbox); have GW435 := Aside0.mk ((by rw [hg]; exact (below_size (bB HB)) : w.heap.size ≤ gb435)); have GE435 := Aside0.mk ((by rw [hg]; exact (below_size (bB HB)) : w.heap.size ≤ gb435)); replace HB := bs HB hb; have NB434_435 := Aside0.mk ((by rw [hg]; exact Nat.ne_of_lt (blk_lt (bU BK434)) : gb434 ≠ gb435)); have NB435_434 := Aside0.mk ((by rw [hg]; exact Nat.ne_of_gt (blk_lt (bU BK434)) : gb435 ≠ gb434)); replace BK434 := bb BK434 hb; clear hb hbox hg; have hnb8 := NB434_435.out; have hnc8 := NB435_434.out; have hcz9_0 := bC0 BK434; have hcz9_1 := bC1 BK434; have hcz9_2 := bC2 BK434; have hfz9_0 := blk_frozen BK434.out 0; have hfz9_1 := blk_frozen BK434.out 1; have hfz9_2 := blk_frozen BK434.out 2) | ((with_reducible refine gate_callee (f := 22) rfl ?_); refine goesA_ (some 7) rfl rfl Try.func22 rfl #[.agg #[.int .i64 a0_0, .slice A0_1 l0_1.length c0_1, .slice A0_2 l0_2.length c0_2]] rfl ?_; (with_reducible refine (threshold_Valid.calls k a0_0 _ _ l0_1 _ _ l0_2 t436 _ ?side1 ?side2 ?side3 ?side4 A3.out).mono ?_); (case side1 => exact Kd.uC (Kd.C_below HR0_1.out HB.out)); (case side2 => exact HC0_1.out); (case side3 => exact Kd.uC (Kd.C_below HR0_2.out HB.out)); (case side4 => exact HC0_2.out); rintro e w10 ⟨rfl, hb⟩; refine ⟨_, rfl, ?_⟩; replace BK434 := bb BK434 hb; replace BK435 := bb BK435 hb; replace HB := bs HB hb; (try clear hb); (try clear hb2); (try clear hk); (try clear hi); have hcz11_0 := bC0 BK435; have hcz11_1 := bC1 BK435; have hcz11_2 := bC2 BK435; have hfz11_0 := blk_frozen BK435.out 0; have hfz11_1 := blk_frozen BK435.out 1; have hfz11_2 := blk_frozen BK435.out 2) | ((with_reducible refine gate_callee (f := 22) rfl ?_); refine goesA_ (some 12) rfl rfl Try.func22 rfl #[.agg #[.int .i64 a1_0, .slice A1_1 l1_1.length c1_1, .slice A1_2 l1_2.length c1_2]] rfl ?_; (with_reducible refine (threshold_Valid.calls k a1_0 _ _ l1_1 _ _ l1_2 t437 _ ?side1 ?side2 ?side3 ?side4 A5.out).mono ?_); (case side1 => exact Kd.uC (Kd.C_below HR1_1.out HB.out)); (case side2 => exact HC1_1.out); (case side3 => exact Kd.uC (Kd.C_below HR1_2.out HB.out)); (case side4 => exact HC1_2.out); rintro e w12 ⟨rfl, hb⟩; refine ⟨_, rfl, ?_⟩; replace BK434 := bb BK434 hb; replace BK435 := bb BK435 hb; replace HB := bs HB hb; (try clear hb); (try clear hb2); (try clear hk); (try clear hi)))
  go_ret
  exact ⟨by first | rfl | (simp [errW_none, errW_some] <;> rfl) | (simp [*, errW_none, errW_some] <;> rfl), bB HB⟩
 ·rw [if_neg c4] at H
  have c4b0 : (t436 == 0) = false := beq_eq_false_iff_ne.mpr c4
  have c4b1 : (t436 != 0) = true := bne_iff_ne.mpr c4
  obtain rfl := Option.some.inj H
  go_enter Try.func32, Try.ntmps32
  go_wp2_with (first | ((with_reducible refine gate_dst (N := 2) rfl ?_); refine box_event ?hg (N := 2) ?hd (cs := #[.int .i64 a0_0, .slice A0_1 l0_1.length c0_1, .slice A0_2 l0_2.length c0_2]) (t := 27) ?hr ?_; (case hd => rfl); (case hg => rfl); (case hr => first | (go_simp; done) | (go_simp; rfl)); intro gb434 hg w13 hbox hb; have BK434 := Aside0.mk (hbox); have GW434 := Aside0.mk ((by rw [hg]; exact (below_size (bB HB)) : w.heap.size ≤ gb434)); have GE434 := Aside0.mk ((by rw [hg]; exact (below_size (bB HB)) : w.heap.size ≤ gb434)); replace HB := bs HB hb; clear hb hbox hg) | ((with_reducible refine gate_dst (N := 3) rfl ?_); refine box_event ?hg (N := 3) ?hd (cs := #[.int .i64 a1_0, .slice A1_1 l1_1.length c1_1, .slice A1_2 l1_2.length c1_2]) (t := 27) ?hr ?_; (case hd => rfl); (case hg => rfl); (case hr => first | (go_simp; done) | (go_simp; rfl)); intro gb435 hg w14 hbox hb; have BK435 := Aside0.mk (hbox); have GW435 := Aside0.mk ((by rw [hg]; exact (below_size (bB HB)) : w.heap.size ≤ gb435)); have GE435 := Aside0.mk ((by rw [hg]; exact (below_size (bB HB)) : w.heap.size ≤ gb435)); replace HB := bs HB hb; have NB434_435 := Aside0.mk ((by rw [hg]; exact Nat.ne_of_lt (blk_lt (bU BK434)) : gb434 ≠ gb435)); have NB435_434 := Aside0.mk ((by rw [hg]; exact Nat.ne_of_gt (blk_lt (bU BK434)) : gb435 ≠ gb434)); replace BK434 := bb BK434 hb; clear hb hbox hg; have hnb15 := NB434_435.out; have hnc15 := NB435_434.out; have hcz16_0 := bC0 BK434; have hcz16_1 := bC1 BK434; have hcz16_2 := bC2 BK434; have hfz16_0 := blk_frozen BK434.out 0; have hfz16_1 := blk_frozen BK434.out 1; have hfz16_2 := blk_frozen BK434.out 2) | ((with_reducible refine gate_callee (f := 22) rfl ?_); refine goesA_ (some 7) rfl rfl Try.func22 rfl #[.agg #[.int .i64 a0_0, .slice A0_1 l0_1.length c0_1, .slice A0_2 l0_2.length c0_2]] rfl ?_; (with_reducible refine (threshold_Valid.calls k a0_0 _ _ l0_1 _ _ l0_2 t436 _ ?side1 ?side2 ?side3 ?side4 A3.out).mono ?_); (case side1 => exact Kd.uC (Kd.C_below HR0_1.out HB.out)); (case side2 => exact HC0_1.out); (case side3 => exact Kd.uC (Kd.C_below HR0_2.out HB.out)); (case side4 => exact HC0_2.out); rintro e w17 ⟨rfl, hb⟩; refine ⟨_, rfl, ?_⟩; replace BK434 := bb BK434 hb; replace BK435 := bb BK435 hb; replace HB := bs HB hb; (try clear hb); (try clear hb2); (try clear hk); (try clear hi)))
  go_ret
  exact ⟨by first | rfl | (simp [errW_none, errW_some] <;> rfl) | (simp [*, errW_none, errW_some] <;> rfl), bB HB⟩
end Go.Proofs.Ytfkpimjiaijmgaa.G
end
section
namespace Go.Proofs.Ytfkpimjiaijmgaa.G
open Go.RowKit Go.Proofs.YtfkpimjiaijmgaaW.PrintWords Go.Proofs.YtfkpimjiaijmgaaW.PrintLast Go.Proofs.YtfkpimjiaijmgaaW.PrintMore
attribute [local go_sem] max2_int min2_int max_two min_two max_three min_three max_four min_four   -- for this text's walks alone
set_option linter.unusedVariables false
set_option linter.unusedSimpArgs false
section
set_option maxRecDepth 100000
open Go.Sort Go.Lib Go.Shelf YtfkpimjiaijmgaaV
attribute [local go_sem] Oper.semAt_some
def firstF (p : Fin 1024 → Bool) : Int × Bool := match allF.find? p with
 | some s => ((s.1 : Int), true)
 | none => (0, false)
theorem firstF_none {p : Fin 1024 → Bool} (h : ∀ y ∈ allF, p y = false) : firstF p = (0, false) := by
 unfold firstF
 rw [List.find?_eq_none.2 (fun y hy => by simp [h y hy])]
theorem firstF_at {p : Fin 1024 → Bool} {pre : List (Fin 1024)} {x : Fin 1024} (h : pre ++ [x] <+: allF) (hp : ∀ y ∈ pre, p y = false) (hx : p x = true) : firstF p = ((x.1 : Int), true) := by
 obtain ⟨r, hr⟩ := h
 unfold firstF
 rw [← hr, List.append_assoc, List.find?_append, List.find?_eq_none.2 (fun y hy => by simp [hp y hy])]
 simp [hx]
def headF (l : List (Fin 1024)) : Int × Bool := match l.head? with
 | some s => ((s.1 : Int), true)
 | none => (0, false)
theorem headF_eq (p : Fin 1024 → Bool) : headF (allF.filter p) = firstF p := by
 unfold headF firstF
 rw [List.head?_filter]
set_option maxHeartbeats 2000000 in
theorem first_calls (g : Nat) (lb : Array Value) (p : Fin 1024 → Bool) (w : World) (eg : ∀ args w, (callFunc g args).run Try.prog w = .ok (.enter g args) w)
 (hP : ∀ (W : World) (s : Fin 1024), Below w.heap.size w W → Calls Try.prog g (#[.int .i64 (s.1 : Int)] ++ lb) W fun e w' => e = .returned (.bool (p s)) ∧ Below W.heap.size W w') :
 Calls Try.prog 33 #[.func (.func g) #[] lb] w fun e w' => e = .returned (.tuple #[.int .i64 (firstF p).1, .bool (firstF p).2]) ∧ Below w.heap.size w w' := by
 have HP := Aside0.mk hP
 clear hP
 refine (callsIn_wide (n := 5)).1 ?_
 refine callsIn_of_wp_marks Try.func33 rfl trivial ?_ rfl
 simp only [Try.ntmps33, List.size_toArray, List.length_cons, List.length_nil, Nat.reduceAdd, Nat.reduceSub, Array.replicate_succ, Array.replicate_zero, List.push_toArray, List.append_toArray, List.nil_append, List.cons_append]
 gi_wp2
 have bF := Boxed.new w 47 (.func (.func g) #[] lb)
 have bI := Boxed.new (w.alloc (.cells #[.func (.func g) #[] lb] 47)) 3 (.int .i64 0)
 have bB := Boxed.new ((w.alloc (.cells #[.func (.func g) #[] lb] 47)).alloc (.cells #[.int .i64 0] 3)) 4 (.bool false)
 rw [World.size_alloc] at bI
 rw [World.size_alloc, World.size_alloc] at bB
 have hB0 : Below w.heap.size w (((w.alloc (.cells #[.func (.func g) #[] lb] 47)).alloc (.cells #[.int .i64 0] 3)).alloc (.cells #[.bool false] 4)) := (((Below.refl _ w).alloc (Nat.le_refl _) _).alloc (by simp) _).alloc (by simp; omega) _
 refine wpIn_rangeFunc_ownG rfl (by omega) (gf := 44) (lb := #[]) rfl trivial (enters_of Try.func44 (by kernel_rfl) rfl)
  (inOrder_stops _ w.heap.size (by omega) _) belowK_t (belowK_b (by simp; omega)) (Below.refl _ _) (fun _ => rfl)
  (fun pre W => (∀ y ∈ pre, p y = false) ∧ (∃ v, Boxed W (w.heap.size + 1) 3 v) ∧ (∃ v, Boxed W (w.heap.size + 1 + 1) 4 v) ∧ (Below w.heap.size w W ∧ Boxed W w.heap.size 47 (.func (.func g) #[] lb)))
  (fun c pre W => (c = .ret ∧ ∃ pre' x, pre = pre' ++ [x] ∧ (∀ y ∈ pre', p y = false) ∧ p x = true ∧ Boxed W (w.heap.size + 1) 3 (.int .i64 (x.1 : Int)) ∧ Boxed W (w.heap.size + 1 + 1) 4 (.bool true)) ∧ Below w.heap.size w W)
  ?own1 ?own2
  ⟨by simp, ⟨_, bI.alloc _⟩, ⟨_, bB⟩, hB0, (bF.alloc _).alloc _⟩
  (fun x => { tmps := #[.func (.func g) #[] lb, .pointer (some ⟨w.heap.size, 0, none⟩), .pointer (some ⟨w.heap.size + 1, 0, none⟩), .pointer (some ⟨w.heap.size + 1 + 1, 0, none⟩), .int .i64 (x.1 : Int), .int .i64 (x.1 : Int), undef, undef, undef, undef], defers := [] }) ?assign ?body ?done ?stop
 case own1 =>
  rintro pre W W' row ⟨h1, ⟨vi, hi⟩, ⟨vb, hb⟩, hB, hF⟩ hg hr
  exact ⟨h1, ⟨vi, boxed_own (β := Unit) _ _ (fun _ => vi) () W W' row hi hg (fun r e => (hr r e).2)⟩, ⟨vb, boxed_own (β := Unit) _ _ (fun _ => vb) () W W' row hb hg (fun r e => (hr r e).2)⟩,
   ownFrom_below (β := Unit) (Nat.le_refl _) (by simp; omega) () W W' row hB hg hr, boxed_own (β := Unit) _ _ (fun _ => _) () W W' row hF hg (fun r e => (hr r e).2)⟩
 case own2 =>
  rintro c pre W W' row ⟨⟨h0, pre', x, h1, h2, h3, hi, hb⟩, hB⟩ hg hr
  exact ⟨⟨h0, pre', x, h1, h2, h3, boxed_own (β := Unit) _ _ (fun _ => _) () W W' row hi hg (fun r e => (hr r e).2), boxed_own (β := Unit) _ _ (fun _ => _) () W W' row hb hg (fun r e => (hr r e).2)⟩, ownFrom_below (β := Unit) (Nat.le_refl _) (by simp; omega) () W W' row hB hg hr⟩
 case assign =>
  intro l x W K hK
  gi_wp2
  exact hK
 case body =>
  rintro l pre x W ⟨hpre, ⟨vi, hi⟩, ⟨vb, hb⟩, hB, hF⟩ hlt
  have hcF := hF.cell
  have HC := Aside0.mk (HP.out W x hB)
  have HW := Aside0.mk (⟨hpre, hi, hb, hB, hF⟩ : (∀ y ∈ pre, p y = false) ∧ Boxed W (w.heap.size + 1) 3 vi ∧ Boxed W (w.heap.size + 1 + 1) 4 vb ∧ Below w.heap.size w W ∧ Boxed W w.heap.size 47 (.func (.func g) #[] lb))
  clear hpre hi hb hB hF hlt
  by_cases hp : p x = true
  ·have HL := Aside0.mk hp
   rw [hp] at HC
   clear hp
   gi_wp2_with (refine ⟨trivial, ?_⟩; refine (CallsIn.inRound l (callsIn_wide.2 HC.out)).mono ?_; rintro e W2 ⟨rfl, hb2⟩; have HB2 := Aside0.mk hb2; clear hb2 hcF; have hi1 := boxed_below HW.out.2.1 HB2.out; have hb1 := boxed_below HW.out.2.2.1 HB2.out; have hc1 := hi1.cell; have hf1 := hi1.frozen; have hb3 := hb1.other (B' := w.heap.size + 1) (by omega) (.int .i64 (x.1 : Int)); have hc2 := hb3.cell; have hf2 := hb3.frozen; have HI1 := Aside0.mk hi1; have HB3 := Aside0.mk hb3; clear hi1 hb1 hb3)
   have hB2 := hb_trans HW.out.2.2.2.1 HB2.out
   refine ⟨(keepsFrom_below HB2.out).trans (((KeepsOthers.setCell _ _ _).trans (KeepsOthers.setCell _ _ _)).from _), ⟨rfl, pre, x, rfl, HW.out.1, HL.out, (HI1.out.set _).other (by omega) _, HB3.out.set _⟩, (hB2.setCell (by simp) _).setCell (by simp; omega) _⟩
  ·have hp' : p x = false := by simpa using hp
   have HL := Aside0.mk hp'
   rw [hp'] at HC
   clear hp hp'
   gi_wp2_with (refine ⟨trivial, ?_⟩; refine (CallsIn.inRound l (callsIn_wide.2 HC.out)).mono ?_; rintro e W2 ⟨rfl, hb2⟩; have HB2 := Aside0.mk hb2; clear hb2 hcF)
   obtain ⟨hpre, hi, hb, hB, hF⟩ := HW.out
   have hb2 := HB2.out
   refine ⟨keepsFrom_below hb2, hb2.mono hB.size, fun y hy => ?_, ⟨vi, boxed_below hi hb2⟩, ⟨vb, boxed_below hb hb2⟩, hb_trans hB hb2, boxed_below hF hb2⟩
   rcases List.mem_append.1 hy with h | h
   ·exact hpre y h
   ·rw [List.mem_singleton.1 h]; exact HL.out
 case done =>
  rintro D ys W hD rfl ⟨hpre, ⟨vi, hi⟩, ⟨vb, hb⟩, hB, hF⟩ hK
  have HN := Aside0.mk (firstF_none hpre)
  have hc1 := hi.cell
  have hf1 := hi.frozen
  have hb3 := hb.other (B' := w.heap.size + 1) (by omega) (.int .i64 0)
  have hc2 := hb3.cell
  have hf2 := hb3.frozen
  have HW := Aside0.mk (⟨hi, hb3, hB, hK, hD⟩ : Boxed W (w.heap.size + 1) 3 vi ∧ Boxed (W.setCell ⟨w.heap.size + 1, 0, none⟩ (.int .i64 0)) (w.heap.size + 1 + 1) 4 vb ∧ Below w.heap.size w W ∧ _ ∧ _)
  clear hpre hi hb hb3 hB hF hK hD
  gi_wp2
  have hK1 := (KeepsOthers.setCell W ⟨w.heap.size + 1, 0, none⟩ (.int .i64 0)).same D _ HW.out.2.2.2.1 rfl
  have hK2 := (KeepsOthers.setCell (W.setCell ⟨w.heap.size + 1, 0, none⟩ (.int .i64 0)) ⟨w.heap.size + 1 + 1, 0, none⟩ (.bool false)).same D _ hK1 rfl
  have hD3 : w.heap.size + 3 ≤ D := by have := HW.out.2.2.2.2; simp at this; omega
  refine ⟨by simp, .inl ⟨_, _, rfl, run_takeDeferred hK2, ?_⟩⟩
  have b1 := ((HW.out.1.set (.int .i64 0)).other (B' := w.heap.size + 1 + 1) (by omega) (.bool false)).kept (grownBy_putObj' _ D (.deferred none)) (by intro e; cases e; omega)
  have b2 := (HW.out.2.1.set (.bool false)).kept (grownBy_putObj' _ D (.deferred none)) (by intro e; cases e; omega)
  have hc5 := b1.cell
  have hc6 := b2.cell
  refine ⟨.tuple #[.int .i64 0, .bool false], ?_, by rw [HN.out], ((HW.out.2.2.1.setCell (by simp) _).setCell (by simp; omega) _).trans (belowK_b (w := w) (Nat.le_refl _) _ D _ _ (by omega) hK2 rfl rfl)⟩
  simp [results, Try.f33, go_sem, hc5, hc6]
 case stop =>
  rintro D c pre W hD hsp ⟨⟨rfl, pre', x, rfl, hpre, hx, hi, hb⟩, hB⟩ hK
  have HN := Aside0.mk (firstF_at hsp hpre hx)
  gi_wp2
  refine ⟨by simp, .inl ⟨_, _, rfl, run_takeDeferred hK, ?_⟩⟩
  have hD3 : w.heap.size + 3 ≤ D := by have := hD; simp at this; omega
  have b1 := hi.kept (grownBy_putObj' W D (.deferred none)) (by intro e; cases e; omega)
  have b2 := hb.kept (grownBy_putObj' W D (.deferred none)) (by intro e; cases e; omega)
  have hc5 := b1.cell
  have hc6 := b2.cell
  refine ⟨.tuple #[.int .i64 (x.1 : Int), .bool true], ?_, by rw [HN.out], hB.trans (belowK_b (w := w) (Nat.le_refl _) _ D _ _ (by omega) hK rfl rfl)⟩
  simp [results, Try.f33, go_sem, hc5, hc6]
end
end Go.Proofs.Ytfkpimjiaijmgaa.G
end
section
namespace Go.Proofs.Ytfkpimjiaijmgaa.G
open Go.RowKit Go.Proofs.YtfkpimjiaijmgaaW.PrintWords Go.Proofs.YtfkpimjiaijmgaaW.PrintLast Go.Proofs.YtfkpimjiaijmgaaW.PrintMore
attribute [local go_sem] max2_int min2_int max_two min_two max_three min_three max_four min_four   -- for this text's walks alone
set_option linter.unusedVariables false
set_option linter.unusedSimpArgs false
section
set_option maxRecDepth 100000
open Go.Sort Go.Lib Go.Shelf YtfkpimjiaijmgaaV
theorem implies1_calls (k : Nat) (a : Int) (A1 : Option Addr) (c1 : Nat) (l1 : List Int) (A2 : Option Addr) (c2 : Nat) (l2 : List S27) (a' : Int) (A3 : Option Addr) (c3 : Nat) (l3 : List Int) (A4 : Option Addr) (c4 : Nat) (l4 : List S27) (B B' : Nat) (s : Int) (b b' : Bool) (W : World)
 (hbox : W.heap[B]? = some (.cells #[.int .i64 a, .slice A1 l1.length c1, .slice A2 l2.length c2] 27 (0, 0))) (hbox' : W.heap[B']? = some (.cells #[.int .i64 a', .slice A3 l3.length c3, .slice A4 l4.length c4] 27 (0, 0)))
 (h1 : Kd.C (Kd.int .i64) W A1 l1.length l1) (hc1 : l1.length ≤ c1) (h2 : Kd.C k27 W A2 l2.length l2) (hc2 : l2.length ≤ c2) (h3 : Kd.C (Kd.int .i64) W A3 l3.length l3) (hc3 : l3.length ≤ c3) (h4 : Kd.C k27 W A4 l4.length l4) (hc4 : l4.length ≤ c4)
 (h : threshold_Satisfied.f k a l1 l2 s = some b) (h' : threshold_Satisfied.f k a' l3 l4 s = some b') :
 Calls Try.prog 35 #[.int .i64 s, .pointer (some ⟨B, 0, none⟩), .pointer (some ⟨B', 0, none⟩)] W fun e w' => e = .returned (.bool (b && !b')) ∧ Below W.heap.size W w' := by
 have H1 := Aside0.mk h1
 have H2 := Aside0.mk h2
 have H3 := Aside0.mk h3
 have H4 := Aside0.mk h4
 have H := Aside0.mk h
 have H' := Aside0.mk h'
 have HX := Aside0.mk hbox'
 have x0 : W.cell? ⟨B, 0, none⟩ = some (.int .i64 a) := (blk_cell hbox 0).trans rfl
 have x1 : W.cell? ⟨B, 1, none⟩ = some (.slice A1 l1.length c1) := (blk_cell hbox 1).trans rfl
 have x2 : W.cell? ⟨B, 2, none⟩ = some (.slice A2 l2.length c2) := (blk_cell hbox 2).trans rfl
 clear h1 h2 h3 h4 h h' hbox hbox'
 go_enter Try.func35, Try.ntmps35
 cases b with
 | false =>
  go_wp2_with (first | (go_at_call 25; (with_reducible refine (threshold_Satisfied.calls k a A1 c1 l1 A2 c2 l2 s false _ H1.out hc1 H2.out hc2 H.out).mono ?_); rintro e w1 ⟨rfl, hb⟩; have HB := Aside0.mk hb; clear hb))
  go_ret
  exact ⟨rfl, HB.out⟩
 | true =>
  go_wp2_with (first
   | (go_at_call 25; (with_reducible refine (threshold_Satisfied.calls k a A1 c1 l1 A2 c2 l2 s true _ H1.out hc1 H2.out hc2 H.out).mono ?_); rintro e w1 ⟨rfl, hb⟩; have HB := Aside0.mk hb; have hbox2 := (hb.block B' (Array.getElem?_eq_some_iff.1 HX.out).1).trans HX.out; clear hb; have y0 : w1.cell? ⟨B', 0, none⟩ = some (.int .i64 a') := (blk_cell hbox2 0).trans rfl; have y1 : w1.cell? ⟨B', 1, none⟩ = some (.slice A3 l3.length c3) := (blk_cell hbox2 1).trans rfl; have y2 : w1.cell? ⟨B', 2, none⟩ = some (.slice A4 l4.length c4) := (blk_cell hbox2 2).trans rfl; clear hbox2)
   | (go_at_call 25; (with_reducible refine (threshold_Satisfied.calls k a' A3 c3 l3 A4 c4 l4 s b' _ (Kd.C_below H3.out HB.out) hc3 (Kd.C_below H4.out HB.out) hc4 H'.out).mono ?_); rintro e w2 ⟨rfl, hb⟩; have HB2 := Aside0.mk hb; clear hb))
  go_ret
  exact ⟨by simp, HB.out.trans (HB2.out.mono HB.out.size)⟩
theorem im_pred {k : Nat} {a : Int} {A1 : Option Addr} {c1 : Nat} {l1 : List Int} {A2 : Option Addr} {c2 : Nat} {l2 : List S27} {a' : Int} {A3 : Option Addr} {c3 : Nat} {l3 : List Int} {A4 : Option Addr} {c4 : Nat} {l4 : List S27} {w w0 w1 : World}
 (HA : Aside0 (∀ x ∈ allF, ∃ b, ((threshold_Satisfied.f k a l1 l2 (x.1 : Int)).bind fun b => (threshold_Satisfied.f k a' l3 l4 (x.1 : Int)).bind fun b' => some (b && !b')) = some b))
 (HBX : Aside0 (w0.heap[w.heap.size]? = some (.cells #[.int .i64 a, .slice A1 l1.length c1, .slice A2 l2.length c2] 27 (0, 0)))) (HBX' : Aside0 (w0.heap[w.heap.size + 1]? = some (.cells #[.int .i64 a', .slice A3 l3.length c3, .slice A4 l4.length c4] 27 (0, 0)))) (HB0 : Aside0 (Below w.heap.size w w0)) (HB1 : Aside0 (Below w0.heap.size w0 w1))
 (H1 : Aside0 (Kd.C (Kd.int .i64) w A1 l1.length l1)) (H2 : Aside0 (Kd.C k27 w A2 l2.length l2)) (hc1 : l1.length ≤ c1) (hc2 : l2.length ≤ c2) (H3 : Aside0 (Kd.C (Kd.int .i64) w A3 l3.length l3)) (H4 : Aside0 (Kd.C k27 w A4 l4.length l4)) (hc3 : l3.length ≤ c3) (hc4 : l4.length ≤ c4) :
 ∀ (W : World) (s : Fin 1024), Below w1.heap.size w1 W → Calls Try.prog 35 (#[.int .i64 (s.1 : Int)] ++ #[.pointer (some ⟨w.heap.size, 0, none⟩), .pointer (some ⟨w.heap.size + 1, 0, none⟩)]) W fun e w' => e = .returned (.bool (((threshold_Satisfied.f k a l1 l2 (s.1 : Int)).bind fun b => (threshold_Satisfied.f k a' l3 l4 (s.1 : Int)).bind fun b' => some (b && !b')).getD false)) ∧ Below W.heap.size W w' := by
 intro W s hW
 obtain ⟨r, hr⟩ := HA.out s (mem_allF s)
 obtain ⟨b, hb, hr2⟩ := Option.bind_eq_some_iff.1 hr
 obtain ⟨b', hb', hr3⟩ := Option.bind_eq_some_iff.1 hr2
 have h01 : Below w0.heap.size w0 W := HB1.out.trans (hW.mono HB1.out.size)
 have hw : Below w.heap.size w W := HB0.out.trans (h01.mono HB0.out.size)
 have hbox := (h01.block w.heap.size (Array.getElem?_eq_some_iff.1 HBX.out).1).trans HBX.out
 have hbox' := (h01.block (w.heap.size + 1) (Array.getElem?_eq_some_iff.1 HBX'.out).1).trans HBX'.out
 rw [hr, ← hr3]
 exact implies1_calls k a A1 c1 l1 A2 c2 l2 a' A3 c3 l3 A4 c4 l4 w.heap.size (w.heap.size + 1) s.1 b b' W hbox hbox' (Kd.C_below H1.out hw) hc1 (Kd.C_below H2.out hw) hc2 (Kd.C_below H3.out hw) hc3 (Kd.C_below H4.out hw) hc4 hb hb'
end
def slices_Implies.f (k : Nat) (a0_0 : Int) (l0_1 : List Int) (l0_2 : List S27) (a1_0 : Int) (l1_1 : List Int) (l1_2 : List S27) : Option (Bool × Int × Int) := (slices_valid.f k a0_0 l0_1 l0_2 a1_0 l1_1 l1_2).bind fun e => if e = 0 then (YtfkpimjiaijmgaaV.filterO (fun s : Fin 1024 => (threshold_Satisfied.f k a0_0 l0_1 l0_2 (s.1 : Int)).bind fun b => (threshold_Satisfied.f k a1_0 l1_1 l1_2 (s.1 : Int)).bind fun b' => some (b && !b')) YtfkpimjiaijmgaaV.allF).bind fun l => some (!(headF l).2, (headF l).1, 0) else some (false, 0, e)
set_option maxHeartbeats 1000000 in
theorem slices_Implies.calls (k : Nat) (a0_0 : Int) (A0_1 : Option Addr) (c0_1 : Nat) (l0_1 : List Int) (A0_2 : Option Addr) (c0_2 : Nat) (l0_2 : List (S27)) (a1_0 : Int) (A1_1 : Option Addr) (c1_1 : Nat) (l1_1 : List Int) (A1_2 : Option Addr) (c1_2 : Nat) (l1_2 : List (S27)) (r1 : Bool) (r2 : Int) (r3 : Int) (w : World) (hr0_1 : Kd.C (Kd.int .i64) w A0_1 l0_1.length l0_1) (hc0_1 : l0_1.length ≤ c0_1) (hr0_2 : Kd.C k27 w A0_2 l0_2.length l0_2) (hc0_2 : l0_2.length ≤ c0_2) (hr1_1 : Kd.C (Kd.int .i64) w A1_1 l1_1.length l1_1) (hc1_1 : l1_1.length ≤ c1_1) (hr1_2 : Kd.C k27 w A1_2 l1_2.length l1_2) (hc1_2 : l1_2.length ≤ c1_2) (h : slices_Implies.f k a0_0 l0_1 l0_2 a1_0 l1_1 l1_2 = some (r1, r2, r3)) :
 Calls Try.prog 19 #[.agg #[.int .i64 a0_0, .slice A0_1 l0_1.length c0_1, .slice A0_2 l0_2.length c0_2], .agg #[.int .i64 a1_0, .slice A1_1 l1_1.length c1_1, .slice A1_2 l1_2.length c1_2]] w fun e w' => e = .returned (.tuple #[.bool r1, .int .i64 r2, .int .i64 r3]) ∧ Below w.heap.size w w' := by
 unfold slices_Implies.f at h
 replace h := Option.bind_eq_some_iff.1 h
 obtain ⟨e, hv, h⟩ := h
 have HV := Aside0.mk hv
 have H1 := Aside0.mk hr0_1
 have H2 := Aside0.mk hr0_2
 have H3 := Aside0.mk hr1_1
 have H4 := Aside0.mk hr1_2
 clear hv hr0_1 hr0_2 hr1_1 hr1_2
 have hbx := heap_alloc_new w (.cells #[.int .i64 a0_0, .slice A0_1 l0_1.length c0_1, .slice A0_2 l0_2.length c0_2] 27)
 have hbx' := heap_alloc_new (w.alloc (.cells #[.int .i64 a0_0, .slice A0_1 l0_1.length c0_1, .slice A0_2 l0_2.length c0_2] 27)) (.cells #[.int .i64 a1_0, .slice A1_1 l1_1.length c1_1, .slice A1_2 l1_2.length c1_2] 27)
 rw [World.size_alloc] at hbx'
 have hal := below_alloc (Below.refl _ (w.alloc (.cells #[.int .i64 a0_0, .slice A0_1 l0_1.length c0_1, .slice A0_2 l0_2.length c0_2] 27))) (.cells #[.int .i64 a1_0, .slice A1_1 l1_1.length c1_1, .slice A1_2 l1_2.length c1_2] 27)
 have HBX := Aside0.mk ((hal.block w.heap.size (by simp)).trans hbx)
 have HBX' := Aside0.mk hbx'
 have HB0 := Aside0.mk (below_alloc (below_alloc (Below.refl w.heap.size w) (.cells #[.int .i64 a0_0, .slice A0_1 l0_1.length c0_1, .slice A0_2 l0_2.length c0_2] 27)) (.cells #[.int .i64 a1_0, .slice A1_1 l1_1.length c1_1, .slice A1_2 l1_2.length c1_2] 27))
 clear hbx hbx' hal
 by_cases he : e = 0
 ·rw [if_pos he] at h
  subst he
  replace h := Option.bind_eq_some_iff.1 h
  obtain ⟨l, hl, h⟩ := h
  obtain ⟨hall, hlf⟩ := YtfkpimjiaijmgaaV.filterO_some hl
  simp only [Option.some.injEq, Prod.mk.injEq] at h
  obtain ⟨rfl, rfl, rfl⟩ := h
  have HL := Aside0.mk (show headF l = firstF _ from hlf ▸ headF_eq _)
  have HA := Aside0.mk hall
  rw [HL.out]
  clear hl hall hlf
  go_enter Try.func19, Try.ntmps19
  go_wp2_with (first
   | (go_at_call 32; (refine (slices_valid.calls k a0_0 A0_1 c0_1 l0_1 A0_2 c0_2 l0_2 a1_0 A1_1 c1_1 l1_1 A1_2 c1_2 l1_2 0 _ (Kd.C_below H1.out HB0.out) hc0_1 (Kd.C_below H2.out HB0.out) hc0_2 (Kd.C_below H3.out HB0.out) hc1_1 (Kd.C_below H4.out HB0.out) hc1_2 HV.out).mono ?_); rintro e w1 ⟨rfl, hb⟩; have HB1 := Aside0.mk hb; clear hb)
   | (go_at_call 33; (refine (first_calls 35 #[.pointer (some ⟨w.heap.size, 0, none⟩), .pointer (some ⟨w.heap.size + 1, 0, none⟩)] _ _ (enters_of Try.func35 (by kernel_rfl) rfl) (im_pred HA HBX HBX' HB0 HB1 H1 H2 hc0_1 hc0_2 H3 H4 hc1_1 hc1_2)).mono ?_); rintro e w2 ⟨rfl, hb⟩; have HB2 := Aside0.mk hb; clear hb))
  go_ret3
  exact ⟨rfl, HB0.out.trans ((HB1.out.trans (HB2.out.mono HB1.out.size)).mono HB0.out.size)⟩
 ·rw [if_neg he] at h
  simp only [Option.some.injEq, Prod.mk.injEq] at h
  obtain ⟨rfl, rfl, rfl⟩ := h
  have he1 : (e == 0) = false := by simpa using he
  have he2 : (e != 0) = true := by simpa using he
  clear he
  go_enter Try.func19, Try.ntmps19
  go_wp2_with (first
   | (go_at_call 32; (refine (slices_valid.calls k a0_0 A0_1 c0_1 l0_1 A0_2 c0_2 l0_2 a1_0 A1_1 c1_1 l1_1 A1_2 c1_2 l1_2 e _ (Kd.C_below H1.out HB0.out) hc0_1 (Kd.C_below H2.out HB0.out) hc0_2 (Kd.C_below H3.out HB0.out) hc1_1 (Kd.C_below H4.out HB0.out) hc1_2 HV.out).mono ?_); rintro e w1 ⟨rfl, hb⟩; have HB1 := Aside0.mk hb; clear hb))
  go_ret3
  exact ⟨rfl, HB0.out.trans (HB1.out.mono HB0.out.size)⟩
end Go.Proofs.Ytfkpimjiaijmgaa.G
end
section
namespace Go.Proofs.Ytfkpimjiaijmgaa.G
open Go.RowKit Go.Proofs.YtfkpimjiaijmgaaW.PrintWords Go.Proofs.YtfkpimjiaijmgaaW.PrintLast Go.Proofs.YtfkpimjiaijmgaaW.PrintMore
attribute [local go_sem] max2_int min2_int max_two min_two max_three min_three max_four min_four   -- for this text's walks alone
set_option linter.unusedVariables false
set_option linter.unusedSimpArgs false
section
set_option maxRecDepth 100000
open Go.Sort Go.Lib Go.Shelf YtfkpimjiaijmgaaV
theorem two_keep {W w' w1 : World} {B B' : Nat} {x0 x1 x2 y0 y1 y2 : Value}
 (h : w'.cell? ⟨B, 0, none⟩ = some x0 ∧ w'.cell? ⟨B, 1, none⟩ = some x1 ∧ w'.cell? ⟨B, 2, none⟩ = some x2 ∧ w'.cell? ⟨B', 0, none⟩ = some y0 ∧ w'.cell? ⟨B', 1, none⟩ = some y1 ∧ w'.cell? ⟨B', 2, none⟩ = some y2 ∧ Below W.heap.size W w') (hb : Below w'.heap.size w' w1) :
 w1.cell? ⟨B, 0, none⟩ = some x0 ∧ w1.cell? ⟨B, 1, none⟩ = some x1 ∧ w1.cell? ⟨B, 2, none⟩ = some x2 ∧ w1.cell? ⟨B', 0, none⟩ = some y0 ∧ w1.cell? ⟨B', 1, none⟩ = some y1 ∧ w1.cell? ⟨B', 2, none⟩ = some y2 ∧ Below W.heap.size W w1 := by
 obtain ⟨h0, h1, h2, h3, h4, h5, h6⟩ := h
 have hk : ∀ {p : Addr} {v : Value}, w'.cell? p = some v → w1.cell? p = some v := fun {p v} hp => (hb.cell (World.block_lt_of_cell? w' p hp)).trans hp
 exact ⟨hk h0, hk h1, hk h2, hk h3, hk h4, hk h5, h6.trans (hb.mono h6.size)⟩
theorem equiv1_calls (k : Nat) (a : Int) (A1 : Option Addr) (c1 : Nat) (l1 : List Int) (A2 : Option Addr) (c2 : Nat) (l2 : List S27) (a' : Int) (A3 : Option Addr) (c3 : Nat) (l3 : List Int) (A4 : Option Addr) (c4 : Nat) (l4 : List S27) (B B' : Nat) (s : Int) (b b' : Bool) (W : World)
 (hbox : W.heap[B]? = some (.cells #[.int .i64 a, .slice A1 l1.length c1, .slice A2 l2.length c2] 27 (0, 0))) (hbox' : W.heap[B']? = some (.cells #[.int .i64 a', .slice A3 l3.length c3, .slice A4 l4.length c4] 27 (0, 0)))
 (h1 : Kd.C (Kd.int .i64) W A1 l1.length l1) (hc1 : l1.length ≤ c1) (h2 : Kd.C k27 W A2 l2.length l2) (hc2 : l2.length ≤ c2) (h3 : Kd.C (Kd.int .i64) W A3 l3.length l3) (hc3 : l3.length ≤ c3) (h4 : Kd.C k27 W A4 l4.length l4) (hc4 : l4.length ≤ c4)
 (h : threshold_Satisfied.f k a l1 l2 s = some b) (h' : threshold_Satisfied.f k a' l3 l4 s = some b') :
 Calls Try.prog 34 #[.int .i64 s, .pointer (some ⟨B, 0, none⟩), .pointer (some ⟨B', 0, none⟩)] W fun e w' => e = .returned (.bool (b != b')) ∧ Below W.heap.size W w' := by
 have CA : ∀ w', Below W.heap.size W w' → Calls Try.prog 25 #[.agg #[.int .i64 a, .slice A1 l1.length c1, .slice A2 l2.length c2], .int .i64 s] w' fun e w1 => e = .returned (.bool b) ∧ Below w'.heap.size w' w1 := fun w' hw =>
  threshold_Satisfied.calls k a A1 c1 l1 A2 c2 l2 s b w' (Kd.C_below h1 hw) hc1 (Kd.C_below h2 hw) hc2 h
 have CB : ∀ w', Below W.heap.size W w' → Calls Try.prog 25 #[.agg #[.int .i64 a', .slice A3 l3.length c3, .slice A4 l4.length c4], .int .i64 s] w' fun e w1 => e = .returned (.bool b') ∧ Below w'.heap.size w' w1 := fun w' hw =>
  threshold_Satisfied.calls k a' A3 c3 l3 A4 c4 l4 s b' w' (Kd.C_below h3 hw) hc3 (Kd.C_below h4 hw) hc4 h'
 have HA := Aside0.mk CA
 have HB := Aside0.mk CB
 have hS : W.drew.cell? ⟨B, 0, none⟩ = some (.int .i64 a) ∧ W.drew.cell? ⟨B, 1, none⟩ = some (.slice A1 l1.length c1) ∧ W.drew.cell? ⟨B, 2, none⟩ = some (.slice A2 l2.length c2) ∧ W.drew.cell? ⟨B', 0, none⟩ = some (.int .i64 a') ∧ W.drew.cell? ⟨B', 1, none⟩ = some (.slice A3 l3.length c3) ∧ W.drew.cell? ⟨B', 2, none⟩ = some (.slice A4 l4.length c4) ∧ Below W.heap.size W W.drew :=
  ⟨(blk_cell hbox 0).trans rfl, (blk_cell hbox 1).trans rfl, (blk_cell hbox 2).trans rfl, (blk_cell hbox' 0).trans rfl, (blk_cell hbox' 1).trans rfl, (blk_cell hbox' 2).trans rfl, below_drew (Below.refl _ _)⟩
 have mixed : Try.prog.follows Departure.mixedOrders = true := by kernel_rfl
 clear h1 h2 h3 h4 h h' hbox hbox' CA CB
 go_enter Try.func34, Try.ntmps34
 go_wp2_with fail
 go_region_held3 (fun w' => w'.cell? ⟨B, 0, none⟩ = some (.int .i64 a) ∧ w'.cell? ⟨B, 1, none⟩ = some (.slice A1 l1.length c1) ∧ w'.cell? ⟨B, 2, none⟩ = some (.slice A2 l2.length c2) ∧ w'.cell? ⟨B', 0, none⟩ = some (.int .i64 a') ∧ w'.cell? ⟨B', 1, none⟩ = some (.slice A3 l3.length c3) ∧ w'.cell? ⟨B', 2, none⟩ = some (.slice A4 l4.length c4) ∧ Below W.heap.size W w')
  (first | exact hS | exact two_keep (by assumption) (by assumption))
  (first
   | (go_at_call 25; (with_reducible refine (HA.out _ ?_).mono ?_); (first | (exact (two_keep (by assumption) (Below.refl _ _)).2.2.2.2.2.2) | (exact hS.2.2.2.2.2.2)); rintro e w1 ⟨rfl, hb⟩)
   | (go_at_call 25; (with_reducible refine (HB.out _ ?_).mono ?_); (first | (exact (two_keep (by assumption) (Below.refl _ _)).2.2.2.2.2.2) | (exact hS.2.2.2.2.2.2)); rintro e w1 ⟨rfl, hb⟩))
 all_goals
  rename_i hH
  have HH := Aside0.mk hH.2.2.2.2.2.2
  clear hH
  go_wp2
  go_ret
  exact ⟨by cases b <;> cases b' <;> rfl, HH.out⟩
theorem eq_pred {k : Nat} {a : Int} {A1 : Option Addr} {c1 : Nat} {l1 : List Int} {A2 : Option Addr} {c2 : Nat} {l2 : List S27} {a' : Int} {A3 : Option Addr} {c3 : Nat} {l3 : List Int} {A4 : Option Addr} {c4 : Nat} {l4 : List S27} {w w0 w1 : World}
 (HA : Aside0 (∀ x ∈ allF, ∃ b, ((threshold_Satisfied.f k a l1 l2 (x.1 : Int)).bind fun b => (threshold_Satisfied.f k a' l3 l4 (x.1 : Int)).bind fun b' => some (b != b')) = some b))
 (HBX : Aside0 (w0.heap[w.heap.size]? = some (.cells #[.int .i64 a, .slice A1 l1.length c1, .slice A2 l2.length c2] 27 (0, 0)))) (HBX' : Aside0 (w0.heap[w.heap.size + 1]? = some (.cells #[.int .i64 a', .slice A3 l3.length c3, .slice A4 l4.length c4] 27 (0, 0)))) (HB0 : Aside0 (Below w.heap.size w w0)) (HB1 : Aside0 (Below w0.heap.size w0 w1))
 (H1 : Aside0 (Kd.C (Kd.int .i64) w A1 l1.length l1)) (H2 : Aside0 (Kd.C k27 w A2 l2.length l2)) (hc1 : l1.length ≤ c1) (hc2 : l2.length ≤ c2) (H3 : Aside0 (Kd.C (Kd.int .i64) w A3 l3.length l3)) (H4 : Aside0 (Kd.C k27 w A4 l4.length l4)) (hc3 : l3.length ≤ c3) (hc4 : l4.length ≤ c4) :
 ∀ (W : World) (s : Fin 1024), Below w1.heap.size w1 W → Calls Try.prog 34 (#[.int .i64 (s.1 : Int)] ++ #[.pointer (some ⟨w.heap.size, 0, none⟩), .pointer (some ⟨w.heap.size + 1, 0, none⟩)]) W fun e w' => e = .returned (.bool (((threshold_Satisfied.f k a l1 l2 (s.1 : Int)).bind fun b => (threshold_Satisfied.f k a' l3 l4 (s.1 : Int)).bind fun b' => some (b != b')).getD false)) ∧ Below W.heap.size W w' := by
 intro W s hW
 obtain ⟨r, hr⟩ := HA.out s (mem_allF s)
 obtain ⟨b, hb, hr2⟩ := Option.bind_eq_some_iff.1 hr
 obtain ⟨b', hb', hr3⟩ := Option.bind_eq_some_iff.1 hr2
 have h01 : Below w0.heap.size w0 W := HB1.out.trans (hW.mono HB1.out.size)
 have hw : Below w.heap.size w W := HB0.out.trans (h01.mono HB0.out.size)
 have hbox := (h01.block w.heap.size (Array.getElem?_eq_some_iff.1 HBX.out).1).trans HBX.out
 have hbox' := (h01.block (w.heap.size + 1) (Array.getElem?_eq_some_iff.1 HBX'.out).1).trans HBX'.out
 rw [hr, ← hr3]
 exact equiv1_calls k a A1 c1 l1 A2 c2 l2 a' A3 c3 l3 A4 c4 l4 w.heap.size (w.heap.size + 1) s.1 b b' W hbox hbox' (Kd.C_below H1.out hw) hc1 (Kd.C_below H2.out hw) hc2 (Kd.C_below H3.out hw) hc3 (Kd.C_below H4.out hw) hc4 hb hb'
end
def slices_Equivalent.f (k : Nat) (a0_0 : Int) (l0_1 : List Int) (l0_2 : List S27) (a1_0 : Int) (l1_1 : List Int) (l1_2 : List S27) : Option (Bool × Int × Int) := (slices_valid.f k a0_0 l0_1 l0_2 a1_0 l1_1 l1_2).bind fun e => if e = 0 then (YtfkpimjiaijmgaaV.filterO (fun s : Fin 1024 => (threshold_Satisfied.f k a0_0 l0_1 l0_2 (s.1 : Int)).bind fun b => (threshold_Satisfied.f k a1_0 l1_1 l1_2 (s.1 : Int)).bind fun b' => some (b != b')) YtfkpimjiaijmgaaV.allF).bind fun l => some (!(headF l).2, (headF l).1, 0) else some (false, 0, e)
set_option maxHeartbeats 1000000 in
theorem slices_Equivalent.calls (k : Nat) (a0_0 : Int) (A0_1 : Option Addr) (c0_1 : Nat) (l0_1 : List Int) (A0_2 : Option Addr) (c0_2 : Nat) (l0_2 : List (S27)) (a1_0 : Int) (A1_1 : Option Addr) (c1_1 : Nat) (l1_1 : List Int) (A1_2 : Option Addr) (c1_2 : Nat) (l1_2 : List (S27)) (r1 : Bool) (r2 : Int) (r3 : Int) (w : World) (hr0_1 : Kd.C (Kd.int .i64) w A0_1 l0_1.length l0_1) (hc0_1 : l0_1.length ≤ c0_1) (hr0_2 : Kd.C k27 w A0_2 l0_2.length l0_2) (hc0_2 : l0_2.length ≤ c0_2) (hr1_1 : Kd.C (Kd.int .i64) w A1_1 l1_1.length l1_1) (hc1_1 : l1_1.length ≤ c1_1) (hr1_2 : Kd.C k27 w A1_2 l1_2.length l1_2) (hc1_2 : l1_2.length ≤ c1_2) (h : slices_Equivalent.f k a0_0 l0_1 l0_2 a1_0 l1_1 l1_2 = some (r1, r2, r3)) :
 Calls Try.prog 18 #[.agg #[.int .i64 a0_0, .slice A0_1 l0_1.length c0_1, .slice A0_2 l0_2.length c0_2], .agg #[.int .i64 a1_0, .slice A1_1 l1_1.length c1_1, .slice A1_2 l1_2.length c1_2]] w fun e w' => e = .returned (.tuple #[.bool r1, .int .i64 r2, .int .i64 r3]) ∧ Below w.heap.size w w' := by
 unfold slices_Equivalent.f at h
 replace h := Option.bind_eq_some_iff.1 h
 obtain ⟨e, hv, h⟩ := h
 have HV := Aside0.mk hv
 have H1 := Aside0.mk hr0_1
 have H2 := Aside0.mk hr0_2
 have H3 := Aside0.mk hr1_1
 have H4 := Aside0.mk hr1_2
 clear hv hr0_1 hr0_2 hr1_1 hr1_2
 have hbx := heap_alloc_new w (.cells #[.int .i64 a0_0, .slice A0_1 l0_1.length c0_1, .slice A0_2 l0_2.length c0_2] 27)
 have hbx' := heap_alloc_new (w.alloc (.cells #[.int .i64 a0_0, .slice A0_1 l0_1.length c0_1, .slice A0_2 l0_2.length c0_2] 27)) (.cells #[.int .i64 a1_0, .slice A1_1 l1_1.length c1_1, .slice A1_2 l1_2.length c1_2] 27)
 rw [World.size_alloc] at hbx'
 have hal := below_alloc (Below.refl _ (w.alloc (.cells #[.int .i64 a0_0, .slice A0_1 l0_1.length c0_1, .slice A0_2 l0_2.length c0_2] 27))) (.cells #[.int .i64 a1_0, .slice A1_1 l1_1.length c1_1, .slice A1_2 l1_2.length c1_2] 27)
 have HBX := Aside0.mk ((hal.block w.heap.size (by simp)).trans hbx)
 have HBX' := Aside0.mk hbx'
 have HB0 := Aside0.mk (below_alloc (below_alloc (Below.refl w.heap.size w) (.cells #[.int .i64 a0_0, .slice A0_1 l0_1.length c0_1, .slice A0_2 l0_2.length c0_2] 27)) (.cells #[.int .i64 a1_0, .slice A1_1 l1_1.length c1_1, .slice A1_2 l1_2.length c1_2] 27))
 clear hbx hbx' hal
 by_cases he : e = 0
 ·rw [if_pos he] at h
  subst he
  replace h := Option.bind_eq_some_iff.1 h
  obtain ⟨l, hl, h⟩ := h
  obtain ⟨hall, hlf⟩ := YtfkpimjiaijmgaaV.filterO_some hl
  simp only [Option.some.injEq, Prod.mk.injEq] at h
  obtain ⟨rfl, rfl, rfl⟩ := h
  have HL := Aside0.mk (show headF l = firstF _ from hlf ▸ headF_eq _)
  have HA := Aside0.mk hall
  rw [HL.out]
  clear hl hall hlf
  go_enter Try.func18, Try.ntmps18
  go_wp2_with (first
   | (go_at_call 32; (refine (slices_valid.calls k a0_0 A0_1 c0_1 l0_1 A0_2 c0_2 l0_2 a1_0 A1_1 c1_1 l1_1 A1_2 c1_2 l1_2 0 _ (Kd.C_below H1.out HB0.out) hc0_1 (Kd.C_below H2.out HB0.out) hc0_2 (Kd.C_below H3.out HB0.out) hc1_1 (Kd.C_below H4.out HB0.out) hc1_2 HV.out).mono ?_); rintro e w1 ⟨rfl, hb⟩; have HB1 := Aside0.mk hb; clear hb)
   | (go_at_call 33; (refine (first_calls 34 #[.pointer (some ⟨w.heap.size, 0, none⟩), .pointer (some ⟨w.heap.size + 1, 0, none⟩)] _ _ (enters_of Try.func34 (by kernel_rfl) rfl) (eq_pred HA HBX HBX' HB0 HB1 H1 H2 hc0_1 hc0_2 H3 H4 hc1_1 hc1_2)).mono ?_); rintro e w2 ⟨rfl, hb⟩; have HB2 := Aside0.mk hb; clear hb))
  go_ret3
  exact ⟨rfl, HB0.out.trans ((HB1.out.trans (HB2.out.mono HB1.out.size)).mono HB0.out.size)⟩
 ·rw [if_neg he] at h
  simp only [Option.some.injEq, Prod.mk.injEq] at h
  obtain ⟨rfl, rfl, rfl⟩ := h
  have he1 : (e == 0) = false := by simpa using he
  have he2 : (e != 0) = true := by simpa using he
  clear he
  go_enter Try.func18, Try.ntmps18
  go_wp2_with (first
   | (go_at_call 32; (refine (slices_valid.calls k a0_0 A0_1 c0_1 l0_1 A0_2 c0_2 l0_2 a1_0 A1_1 c1_1 l1_1 A1_2 c1_2 l1_2 e _ (Kd.C_below H1.out HB0.out) hc0_1 (Kd.C_below H2.out HB0.out) hc0_2 (Kd.C_below H3.out HB0.out) hc1_1 (Kd.C_below H4.out HB0.out) hc1_2 HV.out).mono ?_); rintro e w1 ⟨rfl, hb⟩; have HB1 := Aside0.mk hb; clear hb))
  go_ret3
  exact ⟨rfl, HB0.out.trans (HB1.out.mono HB0.out.size)⟩
end Go.Proofs.Ytfkpimjiaijmgaa.G
end
