/- Joining words: plain law. -/
import Derived.Test.YtkdeikiloanllaaGreatDoorC8
set_option linter.unusedVariables false
set_option linter.unusedSimpArgs false
namespace Go.V
theorem joinc_append (c : UInt8) : ∀ (a b : List (List UInt8)), a ≠ [] → b ≠ [] → joinc c (a ++ b) = joinc c a ++ c :: joinc c b
  | [], _, h, _ => absurd rfl h
  | [x], [], _, h => absurd rfl h
  | [x], y :: l, _, _ => rfl
  | x :: x' :: a, b, _, hb => by
    have := joinc_append c (x' :: a) b (by simp) hb
    show x ++ c :: joinc c ((x' :: a) ++ b) = (x ++ c :: joinc c (x' :: a)) ++ c :: joinc c b
    rw [this, List.append_assoc]
    rfl
theorem ruleWords_ne (r : PR) : ruleWords r ≠ [] := by
  unfold ruleWords
  repeat' split
  all_goals simp
theorem rowWords_ne : ∀ (row : List PR), row ≠ [] → rowWords row ≠ []
  | [], h => absurd rfl h
  | [r], _ => ruleWords_ne r
  | r :: r' :: l, _ => by
    unfold rowWords
    simp
theorem join_cons2 (x y : List UInt8) (l : List (List UInt8)) (sep : List UInt8) : Lib.join (x :: y :: l) sep = x ++ (sep ++ Lib.join (y :: l) sep) := by
  simp [Lib.join, List.intercalate, List.intersperse]
theorem join3 : ∀ (row : List PR), row ≠ [] → Lib.join (row.map fun r => joinc 32 (ruleWords r)) [32, 38, 32] = joinc 32 (rowWords row)
  | [], h => absurd rfl h
  | [r], _ => by simp [Lib.join, List.intercalate, List.intersperse, rowWords]
  | r :: r' :: l, _ => by
    have ih := join3 (r' :: l) (by simp)
    rw [List.map_cons, List.map_cons, join_cons2, ← List.map_cons (f := fun r => joinc 32 (ruleWords r)), ih]
    show _ = joinc 32 (ruleWords r ++ [38] :: rowWords (r' :: l))
    rw [joinc_append 32 _ _ (ruleWords_ne r) (by simp)]
    obtain ⟨y, m, hy⟩ := List.exists_cons_of_ne_nil (rowWords_ne (r' :: l) (by simp))
    rw [hy]
    rfl
theorem rowLine_eq (row : List PR) (h : row ≠ []) : joinc 32 [[114, 117, 108, 101], joinc 32 (rowWords row)] = rowLine row := by
  unfold rowLine
  obtain ⟨y, m, hy⟩ := List.exists_cons_of_ne_nil (rowWords_ne row h)
  rw [hy]
  rfl
end Go.V
