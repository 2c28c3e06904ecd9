/-
 Concepts: what the program's check answers.
-/
import Derived.Test.YtpnlnnfcaeednaaGreatDoorAiK1K2
set_option maxRecDepth 100000
set_option linter.unusedSimpArgs false
set_option linter.unusedVariables false
set_option linter.unusedSectionVars false
namespace Go.Ai.Z
def fieldsS (c : C) : Int := if shapeS c = false then 21 else if namedS c = false then 20 else 0
theorem glob_needs : P0.glob G_terms_needs = some [.i .i64 0, .i .i64 0, .i .i64 0, .b false, .i .i64 0, .i .i64 0, .i .i64 0, .b false, .i .i64 0, .i .i64 0, .i .i64 0, .b false, .i .i64 1, .i .i64 0, .i .i64 0, .b false, .i .i64 2, .i .i64 0, .i .i64 0, .b false, .i .i64 0, .i .i64 2, .i .i64 8, .b false, .i .i64 1, .i .i64 1, .i .i64 1, .b false, .i .i64 1, .i .i64 0, .i .i64 0, .b true] := rfl
theorem c_terms_checkFields (c : C) (hn : c.name.length ≤ 1152921504606846976) (s : St) (cx : Ctx) : acallW P0 (.fn (.func F_terms_checkFields) [] []) [encC c] s cx = .ret (.i .i64 (fieldsS c)) s := by
 refine go_terms_checkFields (by simp) ?_
 have e1 := c_terms_isReserved c.name hn
 by_cases h0 : c.kind < 1
 ·have : shapeS c = false := by simp [shapeS, show ¬ c.kind = 1 by omega, show ¬ c.kind = 2 by omega, show ¬ c.kind = 3 by omega, show ¬ c.kind = 4 by omega, show ¬ c.kind = 5 by omega, show ¬ c.kind = 6 by omega, show ¬ c.kind = 7 by omega]
  simp [callFnW, ir_terms_checkFields, h0, fieldsS, this]
 by_cases h8 : 7 < c.kind
 ·have : shapeS c = false := by simp [shapeS, show ¬ c.kind = 1 by omega, show ¬ c.kind = 2 by omega, show ¬ c.kind = 3 by omega, show ¬ c.kind = 4 by omega, show ¬ c.kind = 5 by omega, show ¬ c.kind = 6 by omega, show ¬ c.kind = 7 by omega]
  simp [callFnW, ir_terms_checkFields, h0, h8, fieldsS, this]
 have hk : c.kind = 1 ∨ c.kind = 2 ∨ c.kind = 3 ∨ c.kind = 4 ∨ c.kind = 5 ∨ c.kind = 6 ∨ c.kind = 7 := by omega
 rcases hps : c.parts with _ | ⟨a, _ | ⟨b, r⟩⟩ <;> rcases hk with hk | hk | hk | hk | hk | hk | hk
 all_goals
  clear h0 h8
  simp [callFnW, ir_terms_checkFields, hk, glob_needs, fieldsS, shapeS, namedS, hps]
  repeat' (first | (split <;> (try simp only [opT_go, opF_go, cdT_go, qT_go, qN_go]) <;> (try simp [*])) | (simp only [opT_go, opF_go, cdT_go, qT_go, qN_go] <;> (try simp [*])) | omega)
end Go.Ai.Z
