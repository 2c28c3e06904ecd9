/-
  The law on tokens: texts of beginnings.
-/
import Derived.Test.YtomjajnlomdhpaaDoorAiLex2
import Derived.Test.YtomjajnlomdhpaaDoorAiInj4
set_option maxRecDepth 100000
set_option linter.unusedSimpArgs false
set_option linter.unusedVariables false
namespace Go.Ai.Z

theorem joinT_take : ∀ (all : List Tk) (i : Nat) (x : Tk) (p : Option (List UInt8)), all[i]? = some x → joinT p (all.take (i + 1)) = joinT p (all.take i) ++ (sep (if i = 0 then p else (all[i - 1]?).map (·.2)) x.2 ++ x.2)
  | [], i, x, p, h => by simp at h
  | a :: r, 0, x, p, h => by simp at h; subst h; simp [joinT]
  | a :: r, i + 1, x, p, h => by
    have ih := joinT_take r i x (some a.2) (by simpa using h)
    rw [List.take_succ_cons, List.take_succ_cons, joinT, joinT, ih]
    cases i with
    | zero => simp
    | succ j => simp
theorem joinT_len : ∀ (all : List Tk) (i : Nat) (p : Option (List UInt8)), (joinT p (all.take i)).length ≤ (joinT p all).length
  | [], i, p => by simp
  | a :: r, 0, p => by simp [joinT]
  | a :: r, i + 1, p => by
    have := joinT_len r i (some a.2)
    simp [joinT]; omega

def tkOf (t : Tok) : Tk := (t.1, t.2.1)


theorem five_t (t : List UInt8) : t = [40] ∨ t = [123] ∨ t = [41] ∨ t = [125] ∨ (t ≠ [40] ∧ t ≠ [123] ∧ t ≠ [41] ∧ t ≠ [125]) := by
  by_cases c1 : t = [40]
  · exact .inl c1
  by_cases c2 : t = [123]
  · exact .inr (.inl c2)
  by_cases c3 : t = [41]
  · exact .inr (.inr (.inl c3))
  by_cases c4 : t = [125]
  · exact .inr (.inr (.inr (.inl c4)))
  exact .inr (.inr (.inr (.inr ⟨c1, c2, c3, c4⟩)))
theorem three_t (t : List UInt8) : t = [40] ∨ t = [123] ∨ (t ≠ [40] ∧ t ≠ [123]) := by
  by_cases c1 : t = [40]
  · exact .inl c1
  by_cases c2 : t = [123]
  · exact .inr (.inl c2)
  exact .inr (.inr ⟨c1, c2⟩)
end Go.Ai.Z
