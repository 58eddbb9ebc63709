/- The tape of numbers: what its readers hand out. -/
import Derived.Test.YtfkpimjiaijmgaaGx0
import Derived.Test.YtfkpimjiaijmgaaGx1
import Derived.Test.YtfkpimjiaijmgaaVBits
namespace Go.Proofs.Ytfkpimjiaijmgaa.Q
open Go.RowKit Go.Proofs.Ytfkpimjiaijmgaa.G Go.Proofs.YtfkpimjiaijmgaaW.PrintWords Go.Proofs.YtfkpimjiaijmgaaW.PrintLast Go.Proofs.YtfkpimjiaijmgaaW.PrintMore Go.Proofs.YtfkpimjiaijmgaaV
set_option linter.unusedVariables false
/-- A tape: at most 400 numbers; the place lies in it. -/
structure TI (l : List Int) (p : Int) : Prop where
  len : l.length ≤ 400
  lo : 0 ≤ p
  hi : p ≤ l.length
theorem wrap_of {x : Int} (h0 : -9223372036854775808 ≤ x) (h1 : x ≤ 9223372036854775807) : wrap64 x = x := by unfold wrap64; omega
theorem tape_new (l : List Int) : ∃ l', trustquorummake_New.f l = some (l', 0) ∧ TI l' 0 := by
  unfold trustquorummake_New.f
  have h : mn (l.length : Int) 400 ≤ 400 ∧ mn (l.length : Int) 400 ≤ l.length ∧ 0 ≤ mn (l.length : Int) 400 := by unfold mn; split <;> omega
  rw [if_pos h.2.2, if_pos h.2.1]
  refine ⟨_, rfl, ⟨?_, Int.le_refl _, by omega⟩⟩
  rw [List.length_take]; omega
theorem tape_N {l : List Int} {p : Int} (h : TI l p) (n : Int) (hn : 0 < n) (hn2 : n ≤ 4294967296) : ∃ r q, trustquorummake_Tape_N.f l p n = some (r, q) ∧ 0 ≤ r ∧ r < n ∧ TI l q := by
  obtain ⟨h1, h2, h3⟩ := h
  unfold trustquorummake_Tape_N.f
  by_cases c : p ≥ (l.length : Int)
  · rw [if_pos c]; exact ⟨0, p, rfl, Int.le_refl _, hn, h1, h2, h3⟩
  · rw [if_neg c, if_pos h2, if_pos (by omega), if_neg (by omega)]
    have hp : wrap64 (p + 1) = p + 1 := wrap_of (by omega) (by omega)
    have t1 := Int.tmod_lt_of_pos (rd l p) hn
    have t2 := Int.lt_tmod_of_pos (rd l p) hn
    rw [hp]
    by_cases c2 : Int.tmod (rd l p) n < 0
    · rw [if_pos c2, wrap_of (by omega) (by omega)]; exact ⟨_, _, rfl, by omega, by omega, h1, by omega, by omega⟩
    · rw [if_neg c2]; exact ⟨_, _, rfl, by omega, by omega, h1, by omega, by omega⟩
theorem tape_Range {l : List Int} {p : Int} (h : TI l p) (a b : Int) (hab : a ≤ b) (ha : -1000000 ≤ a) (hb : b ≤ 1000000) : ∃ r q, trustquorummake_Tape_Range.f l p a b = some (r, q) ∧ a ≤ r ∧ r ≤ b ∧ TI l q := by
  unfold trustquorummake_Tape_Range.f
  have w1 : wrap64 (b - a) = b - a := wrap_of (by omega) (by omega)
  have w2 : wrap64 (b - a + 1) = b - a + 1 := wrap_of (by omega) (by omega)
  rw [w1, w2]
  obtain ⟨r, q, e, h0, h1, hq⟩ := tape_N h (b - a + 1) (by omega) (by omega)
  rw [e]
  refine ⟨a + r, q, ?_, by omega, by omega, hq⟩
  simp only [Option.bind_some]
  rw [wrap_of (by omega) (by omega)]
theorem rd_mem {xs : List Int} {i : Int} (h0 : 0 ≤ i) (h1 : i < xs.length) : rd xs i ∈ xs := by
  have : i.toNat < xs.length := by omega
  unfold rd
  rw [List.getD_eq_getElem?_getD, List.getElem?_eq_getElem this]
  exact List.getElem_mem this
theorem tape_Pick {l : List Int} {p : Int} (h : TI l p) (xs : List Int) (hx : 0 < xs.length) (hx2 : xs.length ≤ 4294967296) : ∃ r q, trustquorummake_Tape_Pick.f l p xs = some (r, q) ∧ r ∈ xs ∧ TI l q := by
  unfold trustquorummake_Tape_Pick.f
  obtain ⟨r, q, e, h0, h1, hq⟩ := tape_N h (xs.length : Int) (by omega) (by omega)
  rw [e]
  simp only [Option.bind_some]
  rw [if_pos h0, if_pos h1]
  exact ⟨_, _, rfl, rd_mem h0 h1, hq⟩
/-- Order's second loop: places are exchanged. -/
theorem order_l1 {l : List Int} : ∀ (d : Nat) (xs : List Int) (p : Int) (i : Int), TI l p → i = (d : Int) → (d : Int) < xs.length ∨ d = 0 → xs.length ≤ 1000000 →
    ∃ ys q, Ev (fun k => trustquorummake_Tape_Order.l1 k xs i l p) (ys, q) ∧ ys.Perm xs ∧ TI l q
  | 0, xs, p, i, h, hi, _, _ => ⟨xs, p, Ev.step (f := fun _ => some (xs, p)) (fun k => by simp only [trustquorummake_Tape_Order.l1]; rw [if_neg (by omega)]) (Ev.now _), List.Perm.refl _, h⟩
  | d + 1, xs, p, i, h, hi, hd, hl => by
    have hd' : ((d + 1 : Nat) : Int) < xs.length := by omega
    have w1 : wrap64 (i + 1) = i + 1 := wrap_of (by omega) (by omega)
    have w2 : wrap64 (i - 1) = i - 1 := wrap_of (by omega) (by omega)
    obtain ⟨r, q, e, h0, h1, hq⟩ := tape_N h (i + 1) (by omega) (by omega)
    have hperm := swap_perm xs i.toNat r.toNat (by omega) (by omega)
    obtain ⟨ys, q2, he, hp, hq2⟩ := order_l1 d ((xs.set i.toNat (rd xs r)).set r.toNat (rd xs i)) q (i - 1) hq (by omega) (by simp; omega) (by simpa using hl)
    refine ⟨ys, q2, ?_, hp.trans ?_, hq2⟩
    · refine Ev.step (f := fun k => trustquorummake_Tape_Order.l1 k ((xs.set i.toNat (rd xs r)).set r.toNat (rd xs i)) (i - 1) l q) (fun k => ?_) he
      simp only [trustquorummake_Tape_Order.l1]
      rw [if_pos (by omega), w1, e]
      simp only [Option.bind_some]
      rw [if_pos h0, if_pos (by omega), if_pos (by omega), if_pos (by omega), w2]
    · exact hperm
where
  swap_perm (xs : List Int) (i r : Nat) (hi : i < xs.length) (hr : r < xs.length) : ((xs.set i (xs.getD r 0)).set r (xs.getD i 0)).Perm xs := by
    have e1 : xs.getD r 0 = xs[r] := by simp [List.getD, hr]
    have e2 : xs.getD i 0 = xs[i] := by simp [List.getD, hi]
    rw [e1, e2]
    have := List.set_set_perm hi hr
    exact this
theorem order_l0 {l : List Int} (n : Nat) (hn : n ≤ 1000) : ∀ (d i : Nat) (p : Int), i + d = n → TI l p →
    ∃ ys q, Ev (fun k => trustquorummake_Tape_Order.l0 k n ((List.range i).map Int.ofNat) i l p) (ys, q) ∧ ys.Perm ((List.range n).map Int.ofNat) ∧ TI l q
  | 0, i, p, hi, h => by
    obtain rfl : i = n := by omega
    have w2 : wrap64 ((i : Int) - 1) = (i : Int) - 1 := wrap_of (by omega) (by omega)
    cases i with
    | zero =>
      refine ⟨[], p, ?_, List.Perm.refl _, h⟩
      refine Ev.step (f := fun k => trustquorummake_Tape_Order.l1 k [] (-1) l p) (fun k => ?_) ?_
      · simp only [trustquorummake_Tape_Order.l0]
        rw [if_neg (by omega), w2]; rfl
      · exact Ev.step (f := fun _ => some ([], p)) (fun k => by simp only [trustquorummake_Tape_Order.l1]; rw [if_neg (by omega)]) (Ev.now _)
    | succ i =>
      obtain ⟨ys, q, he, hp, hq⟩ := order_l1 (l := l) i ((List.range (i + 1)).map Int.ofNat) p (((i + 1 : Nat) : Int) - 1) h (by omega) (by simp; omega) (by simp; omega)
      refine ⟨ys, q, Ev.step (fun k => ?_) he, hp, hq⟩
      simp only [trustquorummake_Tape_Order.l0]
      rw [if_neg (by omega), w2]
  | d + 1, i, p, hi, h => by
    obtain ⟨ys, q, he, hp, hq⟩ := order_l0 n hn d (i + 1) p (by omega) h
    refine ⟨ys, q, Ev.step (fun k => ?_) he, hp, hq⟩
    have w1 : wrap64 ((i : Int) + 1) = ((i + 1 : Nat) : Int) := by rw [wrap_of (by omega) (by omega)]; omega
    simp only [trustquorummake_Tape_Order.l0]
    rw [if_pos (by omega), if_pos (by simp; omega), w1, List.range_succ, List.map_append]; rfl
theorem tape_Order {l : List Int} {p : Int} (h : TI l p) (n : Nat) (hn : n ≤ 1000) : ∃ ys q, Ev (fun k => trustquorummake_Tape_Order.f k l p n) (ys, q) ∧ ys.Perm ((List.range n).map Int.ofNat) ∧ TI l q :=
  order_l0 n hn n 0 p (by omega) h
end Go.Proofs.Ytfkpimjiaijmgaa.Q
