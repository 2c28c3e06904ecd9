/-
  Axioms: their statements, as the reference writes them.
-/
import Derived.Test.YtomjajnlomdhpaaGreatDoorAiK11
import Derived.Test.YtomjajnlomdhpaaGreatDoorAiK12
set_option maxRecDepth 100000
set_option linter.unusedSimpArgs false
set_option linter.unusedVariables false
namespace Go.Ai.Z

def statS (x : Ax) : List UInt8 :=
  if x.kind = 1 then textS x.left ++ [32, 115, 117, 98, 32] ++ textS x.right
  else if x.kind = 2 then textS x.left ++ [32, 115, 97, 109, 101, 32] ++ textS x.right
  else if x.kind = 3 then textS x.left ++ [32, 100, 105, 115, 106, 111, 105, 110, 116, 32] ++ textS x.right
  else if x.kind = 4 then [100, 111, 109, 97, 105, 110, 32] ++ x.role ++ [32] ++ textS x.right
  else if x.kind = 5 then [114, 111, 108, 101, 32] ++ x.roles.headD [] ++ [32, 115, 117, 98, 32] ++ x.role
  else if x.kind = 7 then [114, 101, 102, 108, 101, 120, 105, 118, 101, 32] ++ x.role
  else if x.kind = 8 then [116, 121, 112, 101, 32] ++ x.a ++ [32] ++ textS x.right
  else if x.kind = 9 then [108, 105, 110, 107, 32] ++ x.a ++ [32] ++ x.role ++ [32] ++ x.b
  else [99, 104, 97, 105, 110] ++ x.roles.flatMap (fun r => 32 :: r) ++ [32, 115, 117, 98, 32] ++ x.role
def axS (x : Ax) : List UInt8 :=
  if x.kind = 5 ∨ x.kind = 6 ∨ x.kind = 7 then (if x.op = true then statS x else [112, 114, 105, 118, 97, 116, 101, 32] ++ statS x)
  else (if x.op = true then [111, 112, 101, 110, 32] ++ statS x else statS x)

/-- What is sound of a checked axiom. -/
structure Ax.Good (x : Ax) : Prop where
  k : x.kind = 1 ∨ x.kind = 2 ∨ x.kind = 3 ∨ x.kind = 4 ∨ x.kind = 5 ∨ x.kind = 6 ∨ x.kind = 7 ∨ x.kind = 8 ∨ x.kind = 9
  l : x.kind = 1 ∨ x.kind = 2 ∨ x.kind = 3 → walkS x.left = 0
  r : x.kind = 1 ∨ x.kind = 2 ∨ x.kind = 3 ∨ x.kind = 4 ∨ x.kind = 8 → walkS x.right = 0
  r5 : x.kind = 5 → x.roles.length = 1
  r6 : x.kind = 6 → 2 ≤ x.roles.length ∧ x.roles.length ≤ 4

theorem walk_of {c : C} (h : checkS c = 0) : walkS c = 0 := by
  unfold checkS at h; split at h
  · cases h
  · exact h
theorem good {x : Ax} (h : checkAS x = 0) : x.Good := by
  unfold checkAS at h
  split at h
  · cases h
  split at h
  · cases h
  rename_i hs hn
  have hs : shapedS x = true := by simpa using hs
  unfold tailK at h
  split at h
  · rename_i q; exact absurd h q.2
  split at h
  · rename_i q; exact absurd h q.2
  rename_i ql qr
  have hk : 1 ≤ x.kind ∧ x.kind ≤ 9 := by simp [shapedS, kindOK] at hs; omega
  have hr : (useS x.kind).lo ≤ x.roles.length ∧ (x.roles.length : Int) ≤ (useS x.kind).hi := by
    simp only [shapedS, Bool.and_eq_true, decide_eq_true_eq] at hs; exact ⟨hs.1.2, hs.2⟩
  have hk9 : x.kind = 1 ∨ x.kind = 2 ∨ x.kind = 3 ∨ x.kind = 4 ∨ x.kind = 5 ∨ x.kind = 6 ∨ x.kind = 7 ∨ x.kind = 8 ∨ x.kind = 9 := by omega
  refine ⟨hk9, fun q => ?_, fun q => ?_, fun q => ?_, fun q => ?_⟩
  · have hu : (useS x.kind).l = true := by rcases q with q | q | q <;> rw [q] <;> rfl
    exact walk_of (Classical.not_not.1 fun e => ql ⟨hu, e⟩)
  · have hu : (useS x.kind).r = true := by rcases q with q | q | q | q | q <;> rw [q] <;> rfl
    exact walk_of (Classical.not_not.1 fun e => qr ⟨hu, e⟩)
  · rw [q] at hr; simp [useS] at hr; omega
  · rw [q] at hr; simp [useS] at hr; omega

theorem text_lt {c : C} (hw : wC c ≤ 150) (hv : walkS c = 0) : (textS c).length ≤ 20000 := by have := text_len c hv; omega

end Go.Ai.Z
