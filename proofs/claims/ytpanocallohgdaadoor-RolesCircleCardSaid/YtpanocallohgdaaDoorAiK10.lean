/-
 Axioms: the checks, whole.
-/
import Derived.Test.YtpanocallohgdaaDoorAiK9
set_option maxRecDepth 100000
set_option linter.unusedSimpArgs false
set_option linter.unusedVariables false
namespace Go.Ai.Z
def tailK (k cl cr : Int) (bl br : Bool) : Int :=
 if (useS k).l = true ∧ cl ≠ 0 then cl else if (useS k).r = true ∧ cr ≠ 0 then cr
 else if (k = 2 ∧ (bl = true ∨ br = true)) ∨ ((k = 1 ∨ k = 4 ∨ k = 8) ∧ br = true) then 22 else 0
def checkAS (x : Ax) : Int :=
 if shapedS x = false then 22 else if namedU x (useS x.kind) = false then 20 else tailK x.kind (checkS x.left) (checkS x.right) (bareS x.left) (bareS x.right)
structure Ax.Few (x : Ax) : Prop where
 l : wC x.left ≤ 150
 r : wC x.right ≤ 150
 roles : x.roles.length ≤ 600
 rs : ∀ r ∈ x.roles, r.length ≤ 600
 role : x.role.length ≤ 600
 a : x.a.length ≤ 600
 b : x.b.length ≤ 600
theorem dk {x j : Int} (i : Int) (k : x = j) : decide (x = i) = decide (j = i) := by subst k; rfl
set_option maxHeartbeats 2000000 in
theorem c_terms_CheckAxiom (x : Ax) (hx : x.Few) (s : St) (cx : Ctx) : acallW P0 (.fn (.func F_terms_CheckAxiom) [] []) [encA x] s cx = .ret (.i .i64 (checkAS x)) s := by
 refine go_terms_CheckAxiom (by simp) ?_
 unfold checkAS
 rcases Bool.eq_false_or_eq_true (shapedS x) with hs | hs
 ·have hk : 1 ≤ x.kind ∧ x.kind ≤ 9 := by simp [shapedS, kindOK] at hs; omega
  have b1 : 0 ≤ x.kind := by omega
  have b2 : x.kind.toNat < 10 := by omega
  have b3 : 7 ≤ 70 - x.kind.toNat * 7 := by omega
  have hu := uses_at (k := x.kind) (by omega) (by omega)
  have e1 := c_terms_isNamed x (useS x.kind) (by have := hx.roles; omega) (by have := hx.a; omega) (by have := hx.b; omega)
  have e2 := c_terms_CheckConcept x.left (by have := hx.l; omega)
  have e3 := c_terms_CheckConcept x.right (by have := hx.r; omega)
  have e4 := c_terms_isBare x.left (by have := hx.l; omega)
  have e5 := c_terms_isBare x.right (by have := hx.r; omega)
  have hk9 : x.kind = 1 ∨ x.kind = 2 ∨ x.kind = 3 ∨ x.kind = 4 ∨ x.kind = 5 ∨ x.kind = 6 ∨ x.kind = 7 ∨ x.kind = 8 ∨ x.kind = 9 := by omega
  rw [hs, if_neg (by simp)]
  rcases Bool.eq_false_or_eq_true (namedU x (useS x.kind)) with hn | hn
  ·rw [hn] at e1
   rw [hn, if_neg (by simp)]
   clear hn
   generalize hL : checkS x.left = cl at e2 ⊢
   generalize hR : checkS x.right = cr at e3 ⊢
   generalize bareS x.left = bl at e4 ⊢
   generalize bareS x.right = br at e5 ⊢
   clear hL hR hx hk
   rcases hk9 with k | k | k | k | k | k | k | k | k
   all_goals
    have d1 := dk 1 k
    have d2 := dk 2 k
    have d4 := dk 4 k
    have d8 := dk 8 k
    have kt := congrArg (fun i => tailK i cl cr bl br) k
    rw [kt]
    have ku := congrArg useS k
    rw [ku] at hu e1
    clear ku k kt
    simp [useS] at hu
    simp [useS, encU] at e1
    simp [tailK, useS]
    simp [callFnW, ir_terms_CheckAxiom, hs, b1, b2, b3, glob_uses, uses_len, hu, e1, e2, e3, e4, e5, d1, d2, d4, d8]
    repeat' (first | (split <;> (try simp only [opT_go, opF_go, cdT_go, qT_go, qN_go]) <;> (try simp [*])) | (simp only [opT_go, opF_go, cdT_go, qT_go, qN_go] <;> (try simp [*])) | omega)
  ·rw [hn] at e1
   rw [hn, if_pos rfl]
   generalize useS x.kind = u at hu e1
   simp [callFnW, ir_terms_CheckAxiom, hs, b1, b2, b3, glob_uses, uses_len, hu, e1]
 ·rw [hs, if_pos rfl]
  simp [callFnW, ir_terms_CheckAxiom, hs]
end Go.Ai.Z
