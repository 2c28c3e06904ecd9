/-
  The printers of concepts.
-/
import Derived.Test.YtomjajnlomdhpaaDoorAiK5
set_option maxRecDepth 100000
set_option linter.unusedSimpArgs false
set_option linter.unusedVariables false
namespace Go.Ai.Z
open Go.Lib (itoa)

theorem kd {x j : Int} (k : x = j) : decide (x = j) = true := by simp [k]
theorem kn {x j : Int} (i : Int) (k : x = j) (h : decide (j = i) = false) : decide (x = i) = false := by rw [k]; exact h

theorem sum_ops {l : List C} (h : ∀ p ∈ l, (opS p).length + 8 ≤ 110 * wC p) : (l.map fun p => (opS p).length + 5).sum ≤ 110 * wL l := by
  induction l with
  | nil => simp
  | cons a r ih =>
    have h1 := h a (by simp)
    have h2 := ih (fun p hp => h p (by simp [hp]))
    simp [wL]; omega
theorem op_len {p : C} (h : walkS p = 0) : (opS p).length + 8 ≤ 110 * wC p := by
  have := text_len p h
  unfold opS; split <;> simp <;> omega

end Go.Ai.Z
