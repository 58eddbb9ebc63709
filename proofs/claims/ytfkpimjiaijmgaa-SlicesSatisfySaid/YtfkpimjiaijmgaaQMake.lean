/- A trust drawn from the tape: there always is one, small and valid. -/
import Derived.Test.YtfkpimjiaijmgaaGx0
import Derived.Test.YtfkpimjiaijmgaaGx1
import Derived.Test.YtfkpimjiaijmgaaGx2
import Derived.Test.YtfkpimjiaijmgaaGx4
import Derived.Test.YtfkpimjiaijmgaaGx6
import Derived.Test.YtfkpimjiaijmgaaVLeast
import Derived.Test.YtfkpimjiaijmgaaQTape
import Derived.Test.YtfkpimjiaijmgaaQHas
import Derived.Test.YtfkpimjiaijmgaaQTrust
import Derived.Test.YtfkpimjiaijmgaaQValid
namespace Go.Proofs.Ytfkpimjiaijmgaa.Q
open Go.RowKit Go.Proofs.Ytfkpimjiaijmgaa.G Go.Proofs.YtfkpimjiaijmgaaW.PrintWords Go.Proofs.YtfkpimjiaijmgaaW.PrintLast Go.Proofs.YtfkpimjiaijmgaaW.PrintMore Go.Proofs.YtfkpimjiaijmgaaV
set_option linter.unusedVariables false
theorem mk_l0 {l : List Int} (n a2 : Int) (y : List Int) (hy : y.length ≤ 1073741824) (p : Int) {R : Int × List Int × List TT × Int} (h : Ev (fun k => trustquorummake_trust.l0 k n a2 y y.length (y.length : Nat) l p 0 y) R) : ∀ (d i : Nat), i + d = y.length →
    Ev (fun k => trustquorummake_trust.l0 k n a2 y y.length i l p 0 (y.take i)) R
  | 0, i, hi => by
    obtain rfl : i = y.length := by omega
    rw [List.take_length]; exact h
  | d + 1, i, hi => by
    have hlt : i < y.length := by omega
    refine Ev.step (fun k => ?_) (mk_l0 n a2 y hy p h d (i + 1) (by omega))
    simp only [trustquorummake_trust.l0]
    rw [if_pos (by omega), if_pos (by omega), if_pos (by omega), if_pos (by rw [List.length_take]; omega), up (by omega), rd_get hlt, ← List.take_append_getElem hlt]
theorem mk_l1 {l : List Int} {n : Int} {a2 : Nat} {y : List Int} (ha : a2 ≤ 100) (hy0 : 1 ≤ y.length) (hy : y.length ≤ 10) (ih : ∀ p, TI l p → ∃ a ls ts q, Ev (fun k => trustquorummake_trust.f k l p n (a2 : Nat)) (a, ls, ts, q) ∧ SmD a2 ⟨a, ls, ts⟩ ∧ TI l q) :
    ∀ (r : Nat) (p : Int) (ts : List TT), TI l p → ts.length + r ≤ 3 → (∀ c ∈ ts, SmD a2 c) →
    ∃ a ls ts' q, Ev (fun k => trustquorummake_trust.l1 k n ((a2 + 1 : Nat) : Int) r l p 0 y ts) (a, ls, ts', q) ∧ SmD (a2 + 1) ⟨a, ls, ts'⟩ ∧ TI l q
  | 0, p, ts, hp, hts, hs => by
    have w : wrap64 ((y.length : Int) + (ts.length : Int)) = (y.length : Int) + (ts.length : Int) := wrap_of (by omega) (by omega)
    by_cases c : (ts.length : Int) > 0
    · obtain ⟨b, q, e, b0, b1, hq⟩ := tape_N hp 3 (by omega) (by omega)
      by_cases cb : b = 0
      · obtain ⟨r, q2, e2, r0, r1, hq2⟩ := tape_Range hq 1 (wrap64 (ts.length : Int)) (by rw [wrap_of (by omega) (by omega)]; omega) (by omega) (by rw [wrap_of (by omega) (by omega)]; omega)
        refine ⟨r, [], ts, q2, Ev.step (f := fun _ => some _) (fun k => ?_) (Ev.now _), ⟨by simp, by omega, hs⟩, hq2⟩
        simp only [trustquorummake_trust.l1]
        rw [if_neg (by omega), if_pos c, e]
        simp only [Option.bind_some]
        rw [if_pos cb, e2]; rfl
      · obtain ⟨r, q2, e2, r0, r1, hq2⟩ := tape_Range hq 1 (wrap64 ((y.length : Int) + (ts.length : Int))) (by omega) (by omega) (by omega)
        refine ⟨r, y, ts, q2, Ev.step (f := fun _ => some _) (fun k => ?_) (Ev.now _), ⟨hy, by omega, hs⟩, hq2⟩
        simp only [trustquorummake_trust.l1]
        rw [if_neg (by omega), if_pos c, e]
        simp only [Option.bind_some]
        rw [if_neg cb, e2]; rfl
    · obtain ⟨r, q2, e2, r0, r1, hq2⟩ := tape_Range hp 1 (wrap64 ((y.length : Int) + (ts.length : Int))) (by omega) (by omega) (by omega)
      refine ⟨r, y, ts, q2, Ev.step (f := fun _ => some _) (fun k => ?_) (Ev.now _), ⟨hy, by omega, hs⟩, hq2⟩
      simp only [trustquorummake_trust.l1]
      rw [if_neg (by omega), if_neg c, e2]; rfl
  | r + 1, p, ts, hp, hts, hs => by
    obtain ⟨a, ls, us, q, e, hsm, hq⟩ := ih p hp
    obtain ⟨a', ls', ts', q', e', hsm', hq'⟩ := mk_l1 ha hy0 hy ih r q (ts ++ [⟨a, ls, us⟩]) hq (by simp; omega) (by
      intro c hc
      rcases List.mem_append.1 hc with h | h
      · exact hs c h
      · rw [List.mem_singleton.1 h]; exact hsm)
    refine ⟨a', ls', ts', q', ?_, hsm', hq'⟩
    have w1 : wrap64 (((a2 + 1 : Nat) : Int) - 1) = (a2 : Int) := by rw [wrap_of (by omega) (by omega)]; omega
    have w2 : wrap64 (((r + 1 : Nat) : Int) - 1) = (r : Int) := by rw [wrap_of (by omega) (by omega)]; omega
    refine Ev.step (f := fun k => (trustquorummake_trust.f k l p n (a2 : Nat)).bind fun b => trustquorummake_trust.l1 k n ((a2 + 1 : Nat) : Int) r l b.2.2.2 0 y (ts ++ [⟨b.1, b.2.1, b.2.2.1⟩])) (fun k => ?_) (Ev.bind e e')
    simp only [trustquorummake_trust.l1]
    rw [if_pos (by omega), w1, w2]
    simp only [if_pos (show ts.length < 2513169434916 by omega)]
theorem mk_trust {l : List Int} {n : Nat} (h1 : 1 ≤ n) (hn : n ≤ 1000) : ∀ (a2 : Nat), a2 ≤ 100 → ∀ p, TI l p →
    ∃ a ls ts q, Ev (fun k => trustquorummake_trust.f k l p n ((a2 + 1 : Nat) : Int)) (a, ls, ts, q) ∧ SmD (a2 + 1) ⟨a, ls, ts⟩ ∧ TI l q := by
  intro a2
  induction a2 with
  | zero =>
    intro _ p hp
    obtain ⟨o, q, eo, ho, hq⟩ := tape_Order hp n hn
    have hm : 1 ≤ mn (n : Int) 5 ∧ mn (n : Int) 5 ≤ 5 ∧ mn (n : Int) 5 ≤ n := by unfold mn; split <;> omega
    obtain ⟨m, q2, em, m0, m1, hq2⟩ := tape_Range hq 1 (mn (n : Int) 5) hm.1 (by omega) (by omega)
    have ol : o.length = n := by rw [ho.length_eq]; simp
    have yl : (o.take m.toNat).length = m.toNat := by rw [List.length_take]; omega
    obtain ⟨r, q3, er, r0, r1, hq3⟩ := tape_Range hq2 1 (wrap64 (((o.take m.toNat).length : Int) + (([] : List TT).length : Int))) (by rw [List.length_nil, wrap_of (by omega) (by omega)]; omega) (by omega) (by rw [List.length_nil, wrap_of (by omega) (by omega)]; omega)
    refine ⟨r, o.take m.toNat, [], q3, ?_, ⟨by omega, by simp, by simp⟩, hq3⟩
    have hend : Ev (fun k => trustquorummake_trust.l0 k n ((0 + 1 : Nat) : Int) (o.take m.toNat) (o.take m.toNat).length ((o.take m.toNat).length : Nat) l q2 0 (o.take m.toNat)) (r, o.take m.toNat, ([] : List TT), q3) :=
      Ev.step (f := fun _ => some _) (fun k => by
        simp only [trustquorummake_trust.l0]
        rw [if_neg (by omega), if_neg (by omega), er]; rfl) (Ev.now _)
    have h0 := mk_l0 _ _ _ (by omega) _ hend (o.take m.toNat).length 0 (by omega)
    refine Ev.step (f := fun k => (trustquorummake_Tape_Order.f k l p n).bind fun b => (trustquorummake_Tape_Range.f l b.2 1 (mn n 5)).bind fun c => if 0 ≤ c.1 then if c.1 ≤ (b.1.length : Int) then trustquorummake_trust.l0 k n ((0 + 1 : Nat) : Int) (b.1.take c.1.toNat) (b.1.take c.1.toNat).length 0 l c.2 0 [] else none else none) (fun k => by simp only [trustquorummake_trust.f]; rfl) (Ev.bind eo (Ev.congr (fun k => ?_) h0))
    simp only [em, Option.bind_some]
    rw [if_pos (by omega), if_pos (by omega)]; rfl
  | succ a2 ih =>
    intro ha p hp
    obtain ⟨o, q, eo, ho, hq⟩ := tape_Order hp n hn
    have hm : 1 ≤ mn (n : Int) 5 ∧ mn (n : Int) 5 ≤ 5 ∧ mn (n : Int) 5 ≤ n := by unfold mn; split <;> omega
    obtain ⟨m, q2, em, m0, m1, hq2⟩ := tape_Range hq 1 (mn (n : Int) 5) hm.1 (by omega) (by omega)
    have ol : o.length = n := by rw [ho.length_eq]; simp
    have yl : (o.take m.toNat).length = m.toNat := by rw [List.length_take]; omega
    obtain ⟨r, q3, er, hr, hq3⟩ := tape_Pick hq2 [0, 0, 1, 1, 2, 3] (by decide) (by decide)
    have hr3 : 0 ≤ r ∧ r ≤ 3 := by simp at hr; omega
    obtain ⟨r, rfl⟩ := Int.eq_ofNat_of_zero_le hr3.1
    obtain ⟨a, ls, ts, q4, e4, hs4, hq4⟩ := mk_l1 (n := n) (a2 := a2 + 1) (y := o.take m.toNat) (by omega) (by omega) (by omega) (ih (by omega)) r q3 [] hq3 (by simp; omega) (by simp)
    refine ⟨a, ls, ts, q4, ?_, hs4, hq4⟩
    have hend : Ev (fun k => trustquorummake_trust.l0 k n ((a2 + 1 + 1 : Nat) : Int) (o.take m.toNat) (o.take m.toNat).length ((o.take m.toNat).length : Nat) l q2 0 (o.take m.toNat)) (a, ls, ts, q4) :=
      Ev.step (fun k => by
        simp only [trustquorummake_trust.l0]
        rw [if_neg (by omega), if_pos (by omega), er]; rfl) e4
    have h0 := mk_l0 _ _ _ (by omega) _ hend (o.take m.toNat).length 0 (by omega)
    refine Ev.step (f := fun k => (trustquorummake_Tape_Order.f k l p n).bind fun b => (trustquorummake_Tape_Range.f l b.2 1 (mn n 5)).bind fun c => if 0 ≤ c.1 then if c.1 ≤ (b.1.length : Int) then trustquorummake_trust.l0 k n ((a2 + 1 + 1 : Nat) : Int) (b.1.take c.1.toNat) (b.1.take c.1.toNat).length 0 l c.2 0 [] else none else none) (fun k => by simp only [trustquorummake_trust.f]; rfl) (Ev.bind eo (Ev.congr (fun k => ?_) h0))
    simp only [em, Option.bind_some]
    rw [if_pos (by omega), if_pos (by omega)]; rfl
theorem valid_one {x : Int} (hx : isNode x = true) : validT ⟨1, [x], []⟩ = 0 := by
  have e : (ofV 0 [x]).2 = 0 := by simp [ofV, hx]
  rw [validT, depthT_eq, sizeT_eq, chkT_eq]
  simp [hx, e, firstT]
theorem mk_Trust {l : List Int} {n : Nat} (h1 : 1 ≤ n) (hn : n ≤ 10) (a2 : Nat) (ha : a2 + 1 ≤ 8) {p : Int} (hp : TI l p) :
    ∃ a ls ts q, Ev (fun k => trustquorummake_Trust.f k l p n ((a2 + 1 : Nat) : Int)) (a, ls, ts, q) ∧ SmD (a2 + 1) ⟨a, ls, ts⟩ ∧ validT ⟨a, ls, ts⟩ = 0 ∧ TI l q := by
  obtain ⟨a, ls, ts, q, e, hs, hq⟩ := mk_trust h1 (by omega) a2 (by omega) p hp
  have hv := refvalid_ev ha hs
  by_cases c : validT ⟨a, ls, ts⟩ = 0
  · refine ⟨a, ls, ts, q, Ev.bind e (Ev.bind hv (Ev.congr (fun k => ?_) (Ev.now _))), hs, c, hq⟩
    rw [if_pos c]
  · obtain ⟨r, q2, er, r0, r1, hq2⟩ := tape_N hq (n : Int) (by omega) (by omega)
    have hr : isNode r = true := by simp [isNode]; omega
    refine ⟨1, [r], [], q2, Ev.bind e (Ev.bind hv (Ev.congr (fun k => ?_) (Ev.now _))), ⟨by simp, by simp, by simp⟩, valid_one hr, hq2⟩
    simp only [if_neg c, er]; rfl
end Go.Proofs.Ytfkpimjiaijmgaa.Q
