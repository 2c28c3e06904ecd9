/-
 Above, here and in the reference.
-/
import Derived.Test.YtpanocallohgdaaDoorAiR2R3
set_option maxRecDepth 100000
set_option linter.unusedSimpArgs false
set_option linter.unusedVariables false
namespace Go.Ai.Z
theorem strM_keys : ∀ V : List (List UInt8), (strM V).mapM (fun p => strOf p.1) = some V
 | [] => rfl
 | x :: V => by
  have ih := strM_keys V
  simp only [strM, List.map_cons, List.mapM_cons] at ih ⊢
  rw [ih]; rfl
theorem underL_strs (n : Nat) : ∀ l : List (List UInt8), underL n (l.map .s) = true
 | [] => by simp [underL]
 | x :: l => by simp [underL, underL_strs n l]
end Go.Ai.Z
namespace Go.Ai.Z
end Go.Ai.Z
namespace Go.Ai.Z
theorem sane_n : acall P0 400 (.fn (.func F_law06_sane) [] []) [] [] ⟨0, 0⟩ = .ret (.b true) [] := by
 kernel_rfl
end Go.Ai.Z
