/-
 Axioms: the checks.
-/
import Derived.Test.YtpanocallohgdaaDoorAiK8
set_option maxRecDepth 100000
set_option linter.unusedSimpArgs false
set_option linter.unusedVariables false
namespace Go.Ai.Z
def allPlain : List (List UInt8) → Bool
 | [] => true
 | r :: l => plainS r && allPlain l
def personS (l : List UInt8) : Bool := plainS l || resS l
def namedU (x : Ax) (u : Use) : Bool := (!u.role || plainS x.role) && (!u.a || personS x.a) && (!u.b || personS x.b) && allPlain x.roles
theorem l_terms_isNamed (s : St) (cx : Ctx) (z : Bool) (l : List (List UInt8)) (hl : l.length ≤ 1152921504606846976) : ∀ (rest : List (List UInt8)) (i : Nat), l.drop i = rest →
  ∃ j : Int, loopW (acodeW P0.glob (acallW P0) cx false ir_terms_isNamed_L0) [36, 37, 38] [(36, .v (slf z (l.map .s))), (37, .v (.i .i64 l.length)), (38, .v (.i .i64 i))] s =
   if allPlain rest = true then .exit 0 [(36, .v (slf z (l.map .s))), (37, .v (.i .i64 l.length)), (38, .v (.i .i64 j)), (39, .v (.b false))] s else .ret [(4, .v (.b false))] s
 | [], i, h => by
  have h1 : ¬ i < l.length := Nat.not_lt.2 (drop_nil h)
  refine ⟨i, loop_step fun K hK => ?_⟩
  simp [ir_terms_isNamed_L0, h1, allPlain]
 | b :: r, i, h => by
  obtain ⟨h1, h2, h3, h4⟩ := drop_cons h
  have h5 := h4 h3
  have hw := wI (i := i) (by omega)
  obtain ⟨j, ih⟩ := l_terms_isNamed s cx z l hl r (i + 1) h2
  refine ⟨j, loop_step fun K hK => ?_⟩
  rw [← hK, show ((i + 1 : Nat) : Int) = (i : Int) + 1 from rfl] at ih
  clear hK h4
  rcases Bool.eq_false_or_eq_true (plainS b) with hin | hin <;>
   simp [ir_terms_isNamed_L0, h3, h5, hw, ih, allPlain, hin]
set_option maxHeartbeats 1000000 in
theorem c_terms_isNamed (x : Ax) (u : Use) (hl : x.roles.length ≤ 1152921504606846976) (ha : x.a.length ≤ 1152921504606846976) (hb : x.b.length ≤ 1152921504606846976) (s : St) (cx : Ctx) :
  acallW P0 (.fn (.func F_terms_isNamed) [] []) [encA x, encU u] s cx = .ret (.b (namedU x u)) s := by
 refine go_terms_isNamed (by simp) ?_
 obtain ⟨j, h⟩ := l_terms_isNamed s ⟨s.length, s.length⟩ x.z x.roles hl x.roles 0 rfl
 have e1 : ∀ (s : St) (cx : Ctx), acallW P0 (.fn (.func F_terms_CheckName) [] []) [.s x.a] s cx = .ret (.i .i64 (if personS x.a = true then 0 else 20)) s := c_terms_CheckName x.a ha
 have e2 : ∀ (s : St) (cx : Ctx), acallW P0 (.fn (.func F_terms_CheckName) [] []) [.s x.b] s cx = .ret (.i .i64 (if personS x.b = true then 0 else 20)) s := c_terms_CheckName x.b hb
 simp at h
 unfold namedU
 generalize personS x.a = pa at e1 ⊢
 generalize personS x.b = pb at e2 ⊢
 cases pa <;> cases pb <;> simp only [if_true, Bool.false_eq_true, if_false] at e1 e2
 all_goals
  rcases Bool.eq_false_or_eq_true (allPlain x.roles) with hp | hp
  ·rw [hp, if_pos rfl] at h
   rw [hp]
   clear hp
   simp [callFnW, ir_terms_isNamed, e1, e2]
   repeat' (first | (split <;> (try simp only [opT_go, opF_go, cdT_go, qT_go, qN_go]) <;> (try simp [*])) | (simp only [opT_go, opF_go, cdT_go, qT_go, qN_go] <;> (try simp [*])) | omega)
  ·rw [hp, if_neg (by simp)] at h
   rw [hp]
   clear hp
   simp [callFnW, ir_terms_isNamed, e1, e2]
   repeat' (first | (split <;> (try simp only [opT_go, opF_go, cdT_go, qT_go, qN_go]) <;> (try simp [*])) | (simp only [opT_go, opF_go, cdT_go, qT_go, qN_go] <;> (try simp [*])) | omega)
mutual
def bareS : C → Bool
 | .mk k _ _ _ _ ps => if k = 4 then true else if k = 5 then bareSL ps else false
def bareSL : List C → Bool
 | [] => false
 | p :: r => bareS p || bareSL r
end
theorem bareS_eq (c : C) : bareS c = if c.kind = 4 then true else if c.kind = 5 then bareSL c.parts else false := by cases c; simp only [bareS, C.kind_mk, C.parts_mk]; rfl
theorem l_IndexFunc (s : St) (cx : Ctx) (z : Bool) (ps : List C) (hps : ps.length ≤ 100000)
  (ih : ∀ p ∈ ps, ∀ (s : St) (cx : Ctx), acallW P0 (.fn (.func F_terms_isBare) [] []) [encC p] s cx = .ret (.b (bareS p)) s) : ∀ (rest : List C) (i : Nat), ps.drop i = rest →
  ∃ j : Int, 0 ≤ j ∧ loopW (acodeW P0.glob (acallW P0) cx false ir_slices_IndexFunc_api_Concept_api_Concept_L0) [0, 1, 7, 8] [(0, .v (slf z (ps.map encC))), (1, .v (.fn (.func F_terms_isBare) [] [])), (7, .v (.i .i64 ps.length)), (8, .v (.i .i64 i))] s =
   if bareSL rest = true then .ret [(4, .v (.i .i64 j))] s else .exit 0 [(0, .v (slf z (ps.map encC))), (1, .v (.fn (.func F_terms_isBare) [] [])), (7, .v (.i .i64 ps.length)), (8, .v (.i .i64 j)), (9, .v (.b false))] s
 | [], i, h => by
  have h1 : ¬ i < ps.length := Nat.not_lt.2 (drop_nil h)
  refine ⟨i, by omega, loop_step fun K hK => ?_⟩
  simp [ir_slices_IndexFunc_api_Concept_api_Concept_L0, h1, bareSL]
 | p :: r, i, h => by
  obtain ⟨h1, h2, h3, h4⟩ := drop_cons h
  have h5 := h4 h3
  have hp : p ∈ ps := by rw [← h5]; exact List.getElem_mem h3
  have hw := wI (i := i) (by omega)
  have e1 := ih p hp
  rcases Bool.eq_false_or_eq_true (bareS p) with hb | hb
  ·refine ⟨i, by omega, loop_step fun K hK => ?_⟩
   clear hK h4 ih
   simp [ir_slices_IndexFunc_api_Concept_api_Concept_L0, h3, h5, hw, e1, bareSL, hb]
  ·obtain ⟨j, hj, ih2⟩ := l_IndexFunc s cx z ps hps ih r (i + 1) h2
   refine ⟨j, hj, loop_step fun K hK => ?_⟩
   rw [← hK, show ((i + 1 : Nat) : Int) = (i : Int) + 1 from rfl] at ih2
   clear hK h4 ih
   simp [ir_slices_IndexFunc_api_Concept_api_Concept_L0, h3, h5, hw, e1, bareSL, hb, ih2]
theorem c_terms_isBare : ∀ (c : C), wC c ≤ 100000 → ∀ (s : St) (cx : Ctx), acallW P0 (.fn (.func F_terms_isBare) [] []) [encC c] s cx = .ret (.b (bareS c)) s := by
 refine C.ind' fun c ih hw s cx => ?_
 have hlen := wL_len c.parts
 have hw' := hw
 rw [wC_eq] at hw'
 have ihp : ∀ p ∈ c.parts, ∀ (s : St) (cx : Ctx), acallW P0 (.fn (.func F_terms_isBare) [] []) [encC p] s cx = .ret (.b (bareS p)) s := fun p hp => ih p hp (by have := wL_mem hp; omega)
 have hI : ∀ (s : St) (cx : Ctx), ∃ j : Int, acallW P0 (.fn (.func F_slices_IndexFunc_api_Concept_api_Concept) [] []) [slf c.z (c.parts.map encC), .fn (.func F_terms_isBare) [] []] s cx = .ret (.i .i64 (if bareSL c.parts = true then j else -1)) s ∧ 0 ≤ j := by
  intro s cx
  obtain ⟨j, hj, h⟩ := l_IndexFunc s ⟨cx.lim, s.length⟩ c.z c.parts (by omega) ihp c.parts 0 rfl
  refine ⟨j, go_slices_IndexFunc_api_Concept_api_Concept (by simp) ?_, hj⟩
  simp at h
  rcases Bool.eq_false_or_eq_true (bareSL c.parts) with hb | hb <;> simp [callFnW, ir_slices_IndexFunc_api_Concept_api_Concept, h, hb]
 have hC : ∀ (s : St) (cx : Ctx), acallW P0 (.fn (.func F_slices_ContainsFunc_api_Concept_api_Concept) [] []) [slf c.z (c.parts.map encC), .fn (.func F_terms_isBare) [] []] s cx = .ret (.b (bareSL c.parts)) s := by
  intro s cx
  obtain ⟨j, e1, hj⟩ := hI s ⟨cx.lim, s.length⟩
  refine go_slices_ContainsFunc_api_Concept_api_Concept (by simp) ?_
  rcases Bool.eq_false_or_eq_true (bareSL c.parts) with hb | hb <;> simp [hb] at e1 <;> simp [callFnW, ir_slices_ContainsFunc_api_Concept_api_Concept, e1, hb, hj]
 refine go_terms_isBare (by simp) ?_
 rw [bareS_eq]
 by_cases k4 : c.kind = 4
 ·rw [if_pos k4]; simp [callFnW, ir_terms_isBare, kd k4]
 ·by_cases k5 : c.kind = 5
  ·rw [if_neg k4, if_pos k5]; simp [callFnW, ir_terms_isBare, k4, kd k5, hC]
  ·rw [if_neg k4, if_neg k5]; simp [callFnW, ir_terms_isBare, k4, k5]
end Go.Ai.Z
