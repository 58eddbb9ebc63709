/- All sets, in the order of sets: which one comes next. Plain Lean. -/
import Derived.Test.YtfkpimjiaijmgaaVSpec
namespace Go.Proofs.YtfkpimjiaijmgaaV
/-- From t on, at most d numbers: the first one below 2^n of that size. -/
def seek (n size : Nat) : Nat → Nat → Option Nat
  | 0, _ => none
  | d + 1, t => if t < 2 ^ n then (if popc t = size then some t else seek n size d (t + 1)) else none
def nextN (n s : Nat) : Option Nat := match seek n (popc s) 1024 (s + 1) with
  | some t => some t
  | none => if popc s = n then none else some (2 ^ (popc s + 1) - 1)
def allF : List (Fin 1024) := (List.range 11).flatMap fun c => (List.finRange 1024).filter fun x => popc x.1 = c
def key (s : Nat) : Nat := popc s * 1024 + s
/-- Each element's next one stands behind it; behind the last one comes nothing. -/
def chained : List (Fin 1024) → Bool
  | [] => true
  | [a] => nextN 10 a.1 == none
  | a :: b :: l => nextN 10 a.1 == some b.1 && decide (key a.1 < key b.1) && chained (b :: l)
set_option maxRecDepth 100000 in
theorem chained_all : chained allF = true ∧ allF.head? = some 0 := by decide +kernel
theorem popc_le (s : Nat) : popc s ≤ 10 := by
  unfold popc
  omega
theorem key_le (s : Fin 1024) : key s.1 ≤ 11264 := by have := popc_le s.1; have := s.2; unfold key; omega
theorem mem_allF (x : Fin 1024) : x ∈ allF := by
  unfold allF
  rw [List.mem_flatMap]
  exact ⟨popc x.1, by have := popc_le x.1; rw [List.mem_range]; omega, List.mem_filter.2 ⟨List.mem_finRange x, by simp⟩⟩
def filterO {α : Type} (p : α → Option Bool) : List α → Option (List α)
  | [] => some []
  | x :: l => (p x).bind fun b => (filterO p l).bind fun r => some (if b then x :: r else r)
theorem filterO_some {α : Type} {p : α → Option Bool} : ∀ {l r : List α}, filterO p l = some r → (∀ x ∈ l, ∃ b, p x = some b) ∧ r = l.filter fun x => (p x).getD false
  | [], r, h => by simp [filterO] at h; simp [h]
  | x :: l, r, h => by
    unfold filterO at h
    cases hp : p x with
    | none => simp [hp] at h
    | some b =>
      simp only [hp, Option.bind_some] at h
      cases hl : filterO p l with
      | none => simp [hl] at h
      | some r' =>
        simp only [hl, Option.bind_some, Option.some.injEq] at h
        obtain ⟨h1, h2⟩ := filterO_some hl
        refine ⟨fun y hy => ?_, ?_⟩
        · rcases List.mem_cons.1 hy with e | hy
          · exact ⟨b, by rw [e]; exact hp⟩
          · exact h1 y hy
        · subst h; rw [List.filter_cons, hp]
          cases b <;> simp [h2]
theorem filterO_pos {α : Type} {p q : α → Option Bool} (h : ∀ x b, p x = some b → q x = some b) : ∀ {l r : List α}, filterO p l = some r → filterO q l = some r
  | [], r, hr => by simpa [filterO] using hr
  | x :: l, r, hr => by
    unfold filterO at hr ⊢
    cases hp : p x with
    | none => simp [hp] at hr
    | some b =>
      simp only [hp, Option.bind_some] at hr
      rw [h x b hp]
      simp only [Option.bind_some]
      cases hl : filterO p l with
      | none => simp [hl] at hr
      | some r' =>
        rw [filterO_pos h hl]
        rw [hl] at hr
        exact hr
theorem filterO_of {α : Type} {p : α → Option Bool} {q : α → Bool} : ∀ {l : List α}, (∀ x ∈ l, p x = some (q x)) → filterO p l = some (l.filter q)
  | [], _ => rfl
  | x :: l, h => by
    unfold filterO
    rw [h x (by simp), filterO_of (fun y hy => h y (by simp [hy]))]
    simp only [Option.bind_some, List.filter_cons]
end Go.Proofs.YtfkpimjiaijmgaaV
