/-
  The laws of what is above.
-/
import Derived.Test.YtomjajnlomdhpaaGreatDoorAiR5
set_option maxRecDepth 100000
set_option linter.unusedSimpArgs false
set_option linter.unusedVariables false
namespace Go.Ai.Z

theorem aboveV_slf (l : List Ax) (role : List UInt8) : ∃ (z : Bool) (m : List (List UInt8)), aboveV l role = slf z (m.map .s) ∧ m.length ≤ 1 + l.length := by
  unfold aboveV
  split
  · exact ⟨false, upS l role, by simp, upS_len l role⟩
  · exact ⟨true, [], by simp, by simp⟩
theorem c_above_law (z : Bool) (l : List Ax) (hl : l.length ≤ 1125899906842624) (hx : ∀ x ∈ l, x.Ok) (role : List UInt8) (hs : acallW P0 (.fn (.func F_law06_sane) [] []) [] [] ⟨0, 0⟩ = .ret (.b true) []) (cx : Ctx) :
    acallW P0 (.fn (.func F_law06_RolesAbove) [] []) [slf z (l.map encA), .s role] [] cx = .ret (.b true) [] := by
  obtain ⟨b, e1, hb⟩ := c_law06_few z l hl hx
  refine go_law06_RolesAbove (by simp) ?_
  cases b with
  | false => simp [callFnW, ir_law06_RolesAbove, hs, e1]
  | true =>
    obtain ⟨h12, hf⟩ := hb rfl
    by_cases hr : 100 < role.length
    · have hr' : (100 : Int) < role.length := by omega
      simp [callFnW, ir_law06_RolesAbove, hs, e1, hr']
    · have hr' : ¬ (100 : Int) < role.length := by omega
      have e2 := c_roles_Above z l (by omega) hf role (by omega)
      have e3 := c_ref06_Above z l (by omega) hf role
      have e4 := c_roles_Simple z l (by omega) hf role (by omega)
      have e5 := c_ref06_Simple z l (by omega) hf role
      obtain ⟨z', m, hm, hml⟩ := aboveV_slf l role
      rw [hm] at e2 e3
      have e6 := c_ref06_Same z' z' m m (by omega) (by omega)
      simp at e6
      simp [callFnW, ir_law06_RolesAbove, hs, e1, hr', e2, e3, e4, e5, e6]
theorem sane_n : acall P0 400 (.fn (.func F_law06_sane) [] []) [] [] ⟨0, 0⟩ = .ret (.b true) [] := by
  kernel_rfl
end Go.Ai.Z
