/-
  Axioms: the reference's check.
-/
import Derived.Test.YtomjajnlomdhpaaGreatDoorAiK10
set_option maxRecDepth 100000
set_option linter.unusedSimpArgs false
set_option linter.unusedVariables false
namespace Go.Ai.Z
attribute [local simp] List.length_pos_iff
attribute [-simp] c_ref02_Person
@[simp] theorem c_ref02_Person' (l : List UInt8) (s : St) (cx : Ctx) : acallW P0 (.fn (.func F_ref02_Person) [] []) [.s l] s cx = .ret (.b (personS l)) s := c_ref02_Person l s cx
theorem l_ref02_CheckAxiom (s : St) (cx : Ctx) (z : Bool) (roles : List (List UInt8)) (hl : roles.length ≤ 600) (cs : List AV) (hcs : cs[12]? = some (slf z (roles.map .s))) (l r a b : Bool) : ∀ (rest : List (List UInt8)) (i : Nat), roles.drop i = rest → i ≤ roles.length →
    loopW (acodeW P0.glob (acallW P0) cx false ir_ref02_CheckAxiom_L0) [1, 3, 4, 6, 7, 10] [(1, .bx cs), (3, .v (.b l)), (4, .v (.b r)), (6, .v (.b a)), (7, .v (.b b)), (10, .v (.i .i64 i))] s =
      if allPlain rest = true then .exit 0 [(1, .bx cs), (3, .v (.b l)), (4, .v (.b r)), (6, .v (.b a)), (7, .v (.b b)), (10, .v (.i .i64 roles.length)), (104, .v (.b false))] s else .ret [(2, .v (.i .i64 20))] s
  | [], i, h, hi => by
    have h0 := drop_nil h
    obtain rfl : i = roles.length := by omega
    refine loop_step fun K hK => ?_
    simp [ir_ref02_CheckAxiom_L0, hcs, allPlain]
  | p :: t, i, h, hi => by
    obtain ⟨h1, h2, h3, h4⟩ := drop_cons h
    have h5 := h4 h3
    have hw := wI (i := i) (by omega)
    have ih := l_ref02_CheckAxiom s cx z roles hl cs hcs l r a b t (i + 1) h2 (by omega)
    refine loop_step fun K hK => ?_
    rw [← hK, show ((i + 1 : Nat) : Int) = (i : Int) + 1 from rfl] at ih
    clear hK h4
    rcases Bool.eq_false_or_eq_true (plainS p) with hin | hin <;>
      simp [ir_ref02_CheckAxiom_L0, hcs, h3, h5, hw, ih, allPlain, hin]
set_option maxHeartbeats 4000000 in
theorem c_ref02_CheckAxiom (x : Ax) (hx : x.Few) (s : St) (cx : Ctx) : acallW P0 (.fn (.func F_ref02_CheckAxiom) [] []) [encA x] s cx = .ret (.i .i64 (checkAS x)) s := by
  refine go_ref02_CheckAxiom (by simp) ?_
  have e0 := c_ref02_fields x.kind
  by_cases h1 : x.kind < 1
  · have hs : shapedS x = false := by simp [shapedS, kindOK, show ¬ (1 ≤ x.kind) by omega]
    unfold checkAS
    rw [hs, if_pos rfl]
    simp [callFnW, ir_ref02_CheckAxiom, e0, h1]
  by_cases h9 : 9 < x.kind
  · have hs : shapedS x = false := by simp [shapedS, kindOK, show ¬ (x.kind ≤ 9) by omega]
    unfold checkAS
    rw [hs, if_pos rfl]
    simp [callFnW, ir_ref02_CheckAxiom, e0, h1, h9]
  have hk9 : x.kind = 1 ∨ x.kind = 2 ∨ x.kind = 3 ∨ x.kind = 4 ∨ x.kind = 5 ∨ x.kind = 6 ∨ x.kind = 7 ∨ x.kind = 8 ∨ x.kind = 9 := by omega
  have e2 := c_ref02_CheckConcept x.left (by have := hx.l; omega)
  have e3 := c_ref02_CheckConcept x.right (by have := hx.r; omega)
  have e4 : checkS x.left = 0 → ∀ (s : St) (cx : Ctx), acallW P0 (.fn (.func F_ref02_bare) [] []) [encC x.left] s cx = .ret (.b (bareS x.left)) s := fun h =>
    c_ref02_bare x.left (by have := hx.l; omega) (by unfold checkS at h; split at h; cases h; exact h)
  have e5 : checkS x.right = 0 → ∀ (s : St) (cx : Ctx), acallW P0 (.fn (.func F_ref02_bare) [] []) [encC x.right] s cx = .ret (.b (bareS x.right)) s := fun h =>
    c_ref02_bare x.right (by have := hx.r; omega) (by unfold checkS at h; split at h; cases h; exact h)
  have h : ∀ (cs : List AV) (l r a b : Bool), cs[12]? = some (slf x.z (x.roles.map .s)) → loopW (acodeW P0.glob (acallW P0) ⟨s.length, s.length⟩ false ir_ref02_CheckAxiom_L0) [1, 3, 4, 6, 7, 10] [(1, .bx cs), (3, .v (.b l)), (4, .v (.b r)), (6, .v (.b a)), (7, .v (.b b)), (10, .v (.i .i64 0))] s =
      if allPlain x.roles = true then .exit 0 [(1, .bx cs), (3, .v (.b l)), (4, .v (.b r)), (6, .v (.b a)), (7, .v (.b b)), (10, .v (.i .i64 x.roles.length)), (104, .v (.b false))] s else .ret [(2, .v (.i .i64 20))] s := fun cs l r a b hcs =>
    l_ref02_CheckAxiom s ⟨s.length, s.length⟩ x.z x.roles hx.roles cs hcs l r a b x.roles 0 rfl (by omega)
  unfold checkAS shapedS kindOK namedU
  have q1 : decide (1 ≤ x.kind) = true := by simp; omega
  have q9 : decide (x.kind ≤ 9) = true := by simp; omega
  rw [q1, q9]
  clear q1 q9 hx
  rcases hk9 with k | k | k | k | k | k | k | k | k
  all_goals
    have d2 := dk 2 k
    have d3 := dk 3 k
    have kt := congrArg (fun i => tailK i (checkS x.left) (checkS x.right) (bareS x.left) (bareS x.right)) k
    have ku := congrArg useS k
    rw [kt, ku]
    rw [ku] at e0
    clear ku kt k
    simp [useS] at e0
    generalize checkS x.left = cl at e2 e4 ⊢
    generalize checkS x.right = cr at e3 e5 ⊢
    generalize bareS x.left = bl at e4 ⊢
    generalize bareS x.right = br at e5 ⊢
    simp [tailK, useS]
    simp [callFnW, ir_ref02_CheckAxiom, h1, h9, e0, e2, e3, d2, d3, h]
    repeat' (first | (split <;> (try simp only [opT_go, opF_go, cdT_go, qT_go, qN_go]) <;> (try simp [*])) | (simp only [opT_go, opF_go, cdT_go, qT_go, qN_go] <;> (try simp [*])) | omega)
end Go.Ai.Z
