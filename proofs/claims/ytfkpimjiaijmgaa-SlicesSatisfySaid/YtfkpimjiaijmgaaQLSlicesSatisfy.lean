/- The law SlicesSatisfy: what it computes is true. -/
import Derived.Test.YtfkpimjiaijmgaaGx0
import Derived.Test.YtfkpimjiaijmgaaGx13
import Derived.Test.YtfkpimjiaijmgaaGx14
import Derived.Test.YtfkpimjiaijmgaaGx18
import Derived.Test.YtfkpimjiaijmgaaVLeast
import Derived.Test.YtfkpimjiaijmgaaQTape
import Derived.Test.YtfkpimjiaijmgaaQHas
import Derived.Test.YtfkpimjiaijmgaaQTrust
import Derived.Test.YtfkpimjiaijmgaaQValid
import Derived.Test.YtfkpimjiaijmgaaQMake
import Derived.Test.YtfkpimjiaijmgaaQMin
namespace Go.Proofs.Ytfkpimjiaijmgaa.Q
open Go.RowKit Go.Proofs.Ytfkpimjiaijmgaa.G Go.Proofs.YtfkpimjiaijmgaaW.PrintWords Go.Proofs.YtfkpimjiaijmgaaW.PrintLast Go.Proofs.YtfkpimjiaijmgaaW.PrintMore Go.Proofs.YtfkpimjiaijmgaaV
set_option linter.unusedVariables false
theorem ss_l1 {t : TT} (ht : Sm t) (q : List Int) (hq : ∀ x ∈ q, isSet x = true) (hql : q.length ≤ 1073741824) (x7 z : Int) (hz : isSet z = true) (tl : List Int) (tp : Int) {R : Bool}
    (h : Ev (fun k => trustquorumlaw05_SlicesSatisfy.l0 k q (wrap64 (x7 + 1)) tl tp t.f0 t.f1 t.f2) R) : ∀ (d i : Nat) (b c : Bool), i + d = q.length → (b || (q.drop i).any fun s => subI s z) = satT t z → (c && (q.drop i).all fun s => !subI s (1023 - z)) = (isSet z && !satT t (1023 - z)) →
    Ev (fun k => trustquorumlaw05_SlicesSatisfy.l1 k q x7 z b c q q.length i tl tp t.f0 t.f1 t.f2) R
  | 0, i, b, c, hi, hb, hc => by
    rw [List.drop_of_length_le (by omega)] at hb hc
    simp only [List.any_nil, Bool.or_false, List.all_nil, Bool.and_true] at hb hc
    refine Ev.step (f := fun k => (trustquorumref02_Satisfied.f k t.f0 t.f1 t.f2 z).bind fun a => if (b != a) = true then some false else (trustquorumref02_Blocked.f k t.f0 t.f1 t.f2 z).bind fun a => if (c != a) = true then some false else trustquorumlaw05_SlicesSatisfy.l0 k q (wrap64 (x7 + 1)) tl tp t.f0 t.f1 t.f2) (fun k => ?_) (Ev.bind (refsat_ev z ht) ?_)
    · simp only [trustquorumlaw05_SlicesSatisfy.l1]; rw [if_neg (by omega)]
    · refine Ev.congr (fun k => if_neg (by rw [hb]; simp)) (Ev.bind (refblk_ev z ht) (Ev.congr (fun k => if_neg (by rw [hc]; simp)) h))
  | d + 1, i, b, c, hi, hb, hc => by
    have hlt : i < q.length := by omega
    have e : (q.drop i) = q[i] :: q.drop (i + 1) := List.drop_eq_getElem_cons hlt
    have hs := hq q[i] (List.getElem_mem hlt)
    rw [e, List.any_cons] at hb
    rw [e, List.all_cons] at hc
    have ih := ss_l1 ht q hq hql x7 z hz tl tp h d (i + 1) (b || subI q[i] z) (c && !subI q[i] (1023 - z)) (by omega) (by rw [Bool.or_assoc]; exact hb) (by rw [Bool.and_assoc]; exact hc)
    refine Ev.step (fun k => ?_) ih
    simp only [trustquorumlaw05_SlicesSatisfy.l1]
    rw [if_pos (by omega), if_pos (by omega), if_pos (by omega), rd_get hlt, up (by omega), and_sub hs hz, and_flip hs hz]
    cases b <;> cases c <;> rfl
theorem ss_l0 {t : TT} (ht : Sm t) (q : List Int) (hq : ∀ x ∈ q, isSet x = true) (hql : q.length ≤ 1073741824) (hqs : ∀ z : Fin 1024, (q.any fun s => subI s (z.1 : Int)) = satT t (z.1 : Int)) (tl : List Int) : ∀ (d i : Nat) (tp : Int), i + d = 40 → TI tl tp →
    Ev (fun k => trustquorumlaw05_SlicesSatisfy.l0 k q i tl tp t.f0 t.f1 t.f2) true
  | 0, i, tp, hi, hp => by
    refine Ev.step (f := fun _ => some true) (fun k => ?_) (Ev.now _)
    simp only [trustquorumlaw05_SlicesSatisfy.l0]; rw [if_neg (by omega)]; rfl
  | d + 1, i, tp, hi, hp => by
    have go : ∀ (z tp' : Int), 0 ≤ z → z < 1024 → TI tl tp' → Ev (fun k => trustquorumlaw05_SlicesSatisfy.j2 k q i z tl tp' t.f0 t.f1 t.f2) true := by
      intro z tp' z0 z1 hp'
      have ih := ss_l0 ht q hq hql hqs tl d (i + 1) tp' (by omega) hp'
      have hz : isSet z = true := by simp [isSet]; omega
      obtain ⟨n, rfl⟩ := Int.eq_ofNat_of_zero_le z0
      have h1 := hqs ⟨n, by omega⟩
      have h2 := hqs ⟨1023 - n, by omega⟩
      have e2 : ((1023 - n : Nat) : Int) = 1023 - (n : Int) := by omega
      simp only [e2] at h2
      refine Ev.step (fun k => by simp only [trustquorumlaw05_SlicesSatisfy.j2]; rfl) (ss_l1 ht q hq hql i n hz tl tp' (Ev.congr (fun k => by rw [up (by omega)]) ih) q.length 0 false true (by omega) (by simpa using h1) ?_)
      rw [hz, ← h2, List.drop_zero, List.all_eq_not_any_not]; simp
    obtain ⟨r, p1, e1, r0, r1, hp1⟩ := tape_N hp 1024 (by omega) (by omega)
    obtain ⟨r', p2, e2, r0', r1', hp2⟩ := tape_N hp1 256 (by omega) (by omega)
    by_cases c : (i : Int) < 20
    · refine Ev.step (fun k => ?_) (go r' p2 r0' (by omega) hp2)
      simp only [trustquorumlaw05_SlicesSatisfy.l0]
      rw [if_pos (by omega), e1]; simp only [Option.bind_some]; rw [if_pos c, e2]; rfl
    · refine Ev.step (fun k => ?_) (go r p1 r0 r1 hp1)
      simp only [trustquorumlaw05_SlicesSatisfy.l0]
      rw [if_pos (by omega), e1]; simp only [Option.bind_some]; rw [if_neg c]
theorem slicesSatisfy_true : trustquorumlaw05_SlicesSatisfy.Pure := by
  intro l0 _ _ _
  obtain ⟨tl, e0, hp0⟩ := tape_new l0
  obtain ⟨n, p1, e1, n0, n1, hp1⟩ := tape_Range hp0 1 8 (by omega) (by omega) (by omega)
  obtain ⟨n, rfl⟩ := Int.eq_ofNat_of_zero_le (show 0 ≤ n by omega)
  obtain ⟨a, ls, ts, p2, e2, hs, hv, hp2⟩ := mk_Trust (n := n) (by omega) (by omega) 3 (by omega) hp1
  have h3 := slices_ev (by omega) hs hv
  have hq : ∀ x ∈ minsT ⟨a, ls, ts⟩, isSet x = true := fun x hx => by obtain ⟨s, _, rfl⟩ := least_in hx; exact isSet_fin s
  have hne : (((minsT ⟨a, ls, ts⟩).length : Int) == 0) = false := by
    have h := chk_sat hs.sm (valid_chk hv).1
    obtain ⟨c, hc, _⟩ := least_some (fun s => satT ⟨a, ls, ts⟩ (s.1 : Int)) ⟨1023, by omega⟩ h
    have := List.length_pos_of_mem hc
    rw [beq_eq_false_iff_ne]
    show ((leastL (setsOf fun s => satT ⟨a, ls, ts⟩ (s.1 : Int))).length : Int) ≠ 0
    omega
  have h4 := ss_l0 hs.sm (minsT ⟨a, ls, ts⟩) hq (by have := least_len fun s => satT ⟨a, ls, ts⟩ (s.1 : Int); unfold minsT; omega) (fun z => least_any (sat_grows hs.sm) z) tl 40 0 p2 (by omega) hp2
  have h5 : Ev (fun k => trustquorumlaw05_SlicesSatisfy.j0 k (minsT ⟨a, ls, ts⟩) (((minsT ⟨a, ls, ts⟩).length : Int) == 0) tl p2 a ls ts) true :=
    Ev.step (fun k => by simp only [trustquorumlaw05_SlicesSatisfy.j0]; rw [hne]; rfl) h4
  refine Ev.rounds (g := fun k => trustquorumlaw05_SlicesSatisfy.f k l0) ?_
  refine Ev.congr (fun k => ?_) (Ev.bind (f := fun k b => (slices_Slices.f k b.1 b.2.1 b.2.2.1).bind fun c => if c.2 = 0 then trustquorumlaw05_SlicesSatisfy.j0 k c.1 ((c.1.length : Int) == 0) tl b.2.2.2 b.1 b.2.1 b.2.2.1 else trustquorumlaw05_SlicesSatisfy.j0 k c.1 true tl b.2.2.2 b.1 b.2.1 b.2.2.1) e2 (Ev.bind (f := fun (k : Nat) (c : List Int × Int) => if c.2 = 0 then trustquorumlaw05_SlicesSatisfy.j0 k c.1 ((c.1.length : Int) == 0) tl p2 a ls ts else trustquorumlaw05_SlicesSatisfy.j0 k c.1 true tl p2 a ls ts) h3 h5))
  unfold trustquorumlaw05_SlicesSatisfy.f
  rw [e0]; simp only [Option.bind_some]; rw [e1]; rfl
end Go.Proofs.Ytfkpimjiaijmgaa.Q
