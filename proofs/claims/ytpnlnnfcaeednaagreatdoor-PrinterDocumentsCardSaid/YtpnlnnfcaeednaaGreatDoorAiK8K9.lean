/-
 Axioms: their data, and the first checks.
-/
import Derived.Test.YtpnlnnfcaeednaaGreatDoorAiK5K6K7
set_option maxRecDepth 100000
set_option linter.unusedSimpArgs false
set_option linter.unusedVariables false
set_option linter.unusedSectionVars false
namespace Go.Ai.Z
structure Ax where
 kind : Int
 op : Bool
 left : C
 right : C
 z : Bool
 roles : List (List UInt8)
 role : List UInt8
 a : List UInt8
 b : List UInt8
def cellsA (x : Ax) : List AV := [.i .i64 x.kind, .b x.op, .i .i64 x.left.kind, .s x.left.name, .i .i64 x.left.lo, .i .i64 x.left.hi, slf x.left.z (x.left.parts.map encC),
 .i .i64 x.right.kind, .s x.right.name, .i .i64 x.right.lo, .i .i64 x.right.hi, slf x.right.z (x.right.parts.map encC), slf x.z (x.roles.map .s), .s x.role, .s x.a, .s x.b]
def encA (x : Ax) : AV := .ag (cellsA x)
@[simp] theorem plain_encA (x : Ax) : (encA x).plain = encA x := by simp [encA, cellsA]
@[simp] theorem cells_encA (x : Ax) : (encA x).cells = [.i .i64 x.kind, .b x.op, .i .i64 x.left.kind, .s x.left.name, .i .i64 x.left.lo, .i .i64 x.left.hi, slf x.left.z (x.left.parts.map encC),
 .i .i64 x.right.kind, .s x.right.name, .i .i64 x.right.lo, .i .i64 x.right.hi, slf x.right.z (x.right.parts.map encC), slf x.z (x.roles.map .s), .s x.role, .s x.a, .s x.b] := rfl
@[simp] theorem fold_encA (x : Ax) : AV.ag [.i .i64 x.kind, .b x.op, .i .i64 x.left.kind, .s x.left.name, .i .i64 x.left.lo, .i .i64 x.left.hi, slf x.left.z (x.left.parts.map encC),
 .i .i64 x.right.kind, .s x.right.name, .i .i64 x.right.lo, .i .i64 x.right.hi, slf x.right.z (x.right.parts.map encC), slf x.z (x.roles.map .s), .s x.role, .s x.a, .s x.b] = encA x := rfl
def emptyS (c : C) : Bool := decide (c.kind = 0) && decide (c.name = []) && decide (c.lo = 0) && decide (c.hi = 0) && decide ((c.parts.length : Int) = 0)
@[simp] theorem c_terms_isEmpty (c : C) (s : St) (cx : Ctx) : acallW P0 (.fn (.func F_terms_isEmpty) [] []) [encC c] s cx = .ret (.b (emptyS c)) s := by
 refine go_terms_isEmpty (by simp) ?_
 simp [callFnW, ir_terms_isEmpty, emptyS]
 repeat' (first | (split <;> (try simp only [opT_go, opF_go, cdT_go, qT_go, qN_go]) <;> (try simp [*])) | (simp only [opT_go, opF_go, cdT_go, qT_go, qN_go] <;> (try simp [*])) | omega)
theorem c_terms_CheckName (l : List UInt8) (hl : l.length ≤ 1152921504606846976) (s : St) (cx : Ctx) : acallW P0 (.fn (.func F_terms_CheckName) [] []) [.s l] s cx = .ret (.i .i64 (if (plainS l || resS l) = true then 0 else 20)) s := by
 refine go_terms_CheckName (by simp) ?_
 have e1 := c_terms_isReserved l hl
 rcases Bool.eq_false_or_eq_true (plainS l) with h1 | h1 <;> rcases Bool.eq_false_or_eq_true (resS l) with h2 | h2 <;> simp [callFnW, ir_terms_CheckName, e1, h1, h2]
structure Use where
 l : Bool
 r : Bool
 role : Bool
 a : Bool
 b : Bool
 lo : Int
 hi : Int
def useS (k : Int) : Use :=
 if k = 1 then ⟨true, true, false, false, false, 0, 0⟩ else if k = 2 then ⟨true, true, false, false, false, 0, 0⟩ else if k = 3 then ⟨true, true, false, false, false, 0, 0⟩
 else if k = 4 then ⟨false, true, true, false, false, 0, 0⟩ else if k = 5 then ⟨false, false, true, false, false, 1, 1⟩ else if k = 6 then ⟨false, false, true, false, false, 2, 4⟩
 else if k = 7 then ⟨false, false, true, false, false, 0, 0⟩ else if k = 8 then ⟨false, true, false, true, false, 0, 0⟩ else if k = 9 then ⟨false, false, true, true, true, 0, 0⟩ else ⟨false, false, false, false, false, 0, 0⟩
def encU (u : Use) : AV := .ag [.b u.l, .b u.r, .b u.role, .b u.a, .b u.b, .i .i64 u.lo, .i .i64 u.hi]
@[simp] theorem plain_encU (u : Use) : (encU u).plain = encU u := by simp [encU]
@[simp] theorem cells_encU (u : Use) : (encU u).cells = [.b u.l, .b u.r, .b u.role, .b u.a, .b u.b, .i .i64 u.lo, .i .i64 u.hi] := rfl
@[simp] theorem fold_encU (u : Use) : AV.ag [.b u.l, .b u.r, .b u.role, .b u.a, .b u.b, .i .i64 u.lo, .i .i64 u.hi] = encU u := rfl
def usesCs : List AV := (P0.glob G_terms_uses).getD []
theorem glob_uses : P0.glob G_terms_uses = some usesCs := rfl
theorem uses_len : usesCs.length = 70 := rfl
theorem uses_at {k : Int} (h1 : 1 ≤ k) (h9 : k ≤ 9) : (usesCs.drop (k.toNat * 7)).take 7 = [.b (useS k).l, .b (useS k).r, .b (useS k).role, .b (useS k).a, .b (useS k).b, .i .i64 (useS k).lo, .i .i64 (useS k).hi] := by
 have : k = 1 ∨ k = 2 ∨ k = 3 ∨ k = 4 ∨ k = 5 ∨ k = 6 ∨ k = 7 ∨ k = 8 ∨ k = 9 := by omega
 rcases this with rfl | rfl | rfl | rfl | rfl | rfl | rfl | rfl | rfl <;> rfl
def kindOK (x : Ax) : Bool := decide (1 ≤ x.kind) && decide (x.kind ≤ 9)
def shapedS (x : Ax) : Bool := kindOK x && ((useS x.kind).l || emptyS x.left) && ((useS x.kind).r || emptyS x.right) && ((useS x.kind).role || decide (x.role = [])) && ((useS x.kind).a || decide (x.a = [])) && ((useS x.kind).b || decide (x.b = [])) &&
 decide ((useS x.kind).lo ≤ x.roles.length) && decide ((x.roles.length : Int) ≤ (useS x.kind).hi)
set_option maxHeartbeats 2000000 in
@[simp] theorem c_terms_isShaped (x : Ax) (s : St) (cx : Ctx) : acallW P0 (.fn (.func F_terms_isShaped) [] []) [encA x] s cx = .ret (.b (shapedS x)) s := by
 refine go_terms_isShaped (by simp) ?_
 by_cases h1 : x.kind < 1
 ·simp [callFnW, ir_terms_isShaped, h1, shapedS, kindOK, show ¬ (1 ≤ x.kind) by omega]
 by_cases h9 : 9 < x.kind
 ·simp [callFnW, ir_terms_isShaped, h1, h9, shapedS, kindOK, show ¬ (x.kind ≤ 9) by omega]
 have b1 : 0 ≤ x.kind := by omega
 have b2 : x.kind.toNat < 10 := by omega
 have b3 : 7 ≤ 70 - x.kind.toNat * 7 := by omega
 have hu := uses_at (k := x.kind) (by omega) (by omega)
 have hk : kindOK x = true := by simp [kindOK]; omega
 unfold shapedS
 rw [hk]
 have hk9 : x.kind = 1 ∨ x.kind = 2 ∨ x.kind = 3 ∨ x.kind = 4 ∨ x.kind = 5 ∨ x.kind = 6 ∨ x.kind = 7 ∨ x.kind = 8 ∨ x.kind = 9 := by omega
 clear hk
 rcases hk9 with k | k | k | k | k | k | k | k | k
 all_goals
  have ku := congrArg useS k
  rw [ku] at hu ⊢
  clear ku k
  simp [useS] at hu ⊢
  simp [callFnW, ir_terms_isShaped, h1, h9, b1, b2, b3, glob_uses, uses_len, hu]
  clear hu b1 b2 b3 h1 h9
  repeat' (first | (split <;> (try simp only [opT_go, opF_go, cdT_go, qT_go, qN_go]) <;> (try simp [*])) | (simp only [opT_go, opF_go, cdT_go, qT_go, qN_go] <;> (try simp [*])) | omega)
end Go.Ai.Z
namespace Go.Ai.Z
def allPlain : List (List UInt8) → Bool
 | [] => true
 | r :: l => plainS r && allPlain l
def personS (l : List UInt8) : Bool := plainS l || resS l
def namedU (x : Ax) (u : Use) : Bool := (!u.role || plainS x.role) && (!u.a || personS x.a) && (!u.b || personS x.b) && allPlain x.roles
theorem l_terms_isNamed (s : St) (cx : Ctx) (z : Bool) (l : List (List UInt8)) (hl : l.length ≤ 1152921504606846976) : ∀ (rest : List (List UInt8)) (i : Nat), l.drop i = rest →
  ∃ j : Int, loopW (acodeW P0.glob (acallW P0) cx false ir_terms_isNamed_L0) [36, 37, 38] [(36, .v (slf z (l.map .s))), (37, .v (.i .i64 l.length)), (38, .v (.i .i64 i))] s =
   if allPlain rest = true then .exit 0 [(36, .v (slf z (l.map .s))), (37, .v (.i .i64 l.length)), (38, .v (.i .i64 j)), (39, .v (.b false))] s else .ret [(4, .v (.b false))] s
 | [], i, h => by
  have h1 : ¬ i < l.length := Nat.not_lt.2 (drop_nil h)
  refine ⟨i, loop_step fun K hK => ?_⟩
  simp [ir_terms_isNamed_L0, h1, allPlain]
 | b :: r, i, h => by
  obtain ⟨h1, h2, h3, h4⟩ := drop_cons h
  have h5 := h4 h3
  have hw := wI (i := i) (by omega)
  obtain ⟨j, ih⟩ := l_terms_isNamed s cx z l hl r (i + 1) h2
  refine ⟨j, loop_step fun K hK => ?_⟩
  rw [← hK, show ((i + 1 : Nat) : Int) = (i : Int) + 1 from rfl] at ih
  clear hK h4
  rcases Bool.eq_false_or_eq_true (plainS b) with hin | hin <;>
   simp [ir_terms_isNamed_L0, h3, h5, hw, ih, allPlain, hin]
set_option maxHeartbeats 1000000 in
theorem c_terms_isNamed (x : Ax) (u : Use) (hl : x.roles.length ≤ 1152921504606846976) (ha : x.a.length ≤ 1152921504606846976) (hb : x.b.length ≤ 1152921504606846976) (s : St) (cx : Ctx) :
  acallW P0 (.fn (.func F_terms_isNamed) [] []) [encA x, encU u] s cx = .ret (.b (namedU x u)) s := by
 refine go_terms_isNamed (by simp) ?_
 obtain ⟨j, h⟩ := l_terms_isNamed s ⟨s.length, s.length⟩ x.z x.roles hl x.roles 0 rfl
 have e1 : ∀ (s : St) (cx : Ctx), acallW P0 (.fn (.func F_terms_CheckName) [] []) [.s x.a] s cx = .ret (.i .i64 (if personS x.a = true then 0 else 20)) s := c_terms_CheckName x.a ha
 have e2 : ∀ (s : St) (cx : Ctx), acallW P0 (.fn (.func F_terms_CheckName) [] []) [.s x.b] s cx = .ret (.i .i64 (if personS x.b = true then 0 else 20)) s := c_terms_CheckName x.b hb
 simp at h
 unfold namedU
 generalize personS x.a = pa at e1 ⊢
 generalize personS x.b = pb at e2 ⊢
 cases pa <;> cases pb <;> simp only [if_true, Bool.false_eq_true, if_false] at e1 e2
 all_goals
  rcases Bool.eq_false_or_eq_true (allPlain x.roles) with hp | hp
  ·rw [hp, if_pos rfl] at h
   rw [hp]
   clear hp
   simp [callFnW, ir_terms_isNamed, e1, e2]
   repeat' (first | (split <;> (try simp only [opT_go, opF_go, cdT_go, qT_go, qN_go]) <;> (try simp [*])) | (simp only [opT_go, opF_go, cdT_go, qT_go, qN_go] <;> (try simp [*])) | omega)
  ·rw [hp, if_neg (by simp)] at h
   rw [hp]
   clear hp
   simp [callFnW, ir_terms_isNamed, e1, e2]
   repeat' (first | (split <;> (try simp only [opT_go, opF_go, cdT_go, qT_go, qN_go]) <;> (try simp [*])) | (simp only [opT_go, opF_go, cdT_go, qT_go, qN_go] <;> (try simp [*])) | omega)
mutual
def bareS : C → Bool
 | .mk k _ _ _ _ ps => if k = 4 then true else if k = 5 then bareSL ps else false
def bareSL : List C → Bool
 | [] => false
 | p :: r => bareS p || bareSL r
end
theorem bareS_eq (c : C) : bareS c = if c.kind = 4 then true else if c.kind = 5 then bareSL c.parts else false := by cases c; simp only [bareS, C.kind_mk, C.parts_mk]; rfl
theorem l_IndexFunc (s : St) (cx : Ctx) (z : Bool) (ps : List C) (hps : ps.length ≤ 100000)
  (ih : ∀ p ∈ ps, ∀ (s : St) (cx : Ctx), acallW P0 (.fn (.func F_terms_isBare) [] []) [encC p] s cx = .ret (.b (bareS p)) s) : ∀ (rest : List C) (i : Nat), ps.drop i = rest →
  ∃ j : Int, 0 ≤ j ∧ loopW (acodeW P0.glob (acallW P0) cx false ir_slices_IndexFunc_api_Concept_api_Concept_L0) [0, 1, 7, 8] [(0, .v (slf z (ps.map encC))), (1, .v (.fn (.func F_terms_isBare) [] [])), (7, .v (.i .i64 ps.length)), (8, .v (.i .i64 i))] s =
   if bareSL rest = true then .ret [(4, .v (.i .i64 j))] s else .exit 0 [(0, .v (slf z (ps.map encC))), (1, .v (.fn (.func F_terms_isBare) [] [])), (7, .v (.i .i64 ps.length)), (8, .v (.i .i64 j)), (9, .v (.b false))] s
 | [], i, h => by
  have h1 : ¬ i < ps.length := Nat.not_lt.2 (drop_nil h)
  refine ⟨i, by omega, loop_step fun K hK => ?_⟩
  simp [ir_slices_IndexFunc_api_Concept_api_Concept_L0, h1, bareSL]
 | p :: r, i, h => by
  obtain ⟨h1, h2, h3, h4⟩ := drop_cons h
  have h5 := h4 h3
  have hp : p ∈ ps := by rw [← h5]; exact List.getElem_mem h3
  have hw := wI (i := i) (by omega)
  have e1 := ih p hp
  rcases Bool.eq_false_or_eq_true (bareS p) with hb | hb
  ·refine ⟨i, by omega, loop_step fun K hK => ?_⟩
   clear hK h4 ih
   simp [ir_slices_IndexFunc_api_Concept_api_Concept_L0, h3, h5, hw, e1, bareSL, hb]
  ·obtain ⟨j, hj, ih2⟩ := l_IndexFunc s cx z ps hps ih r (i + 1) h2
   refine ⟨j, hj, loop_step fun K hK => ?_⟩
   rw [← hK, show ((i + 1 : Nat) : Int) = (i : Int) + 1 from rfl] at ih2
   clear hK h4 ih
   simp [ir_slices_IndexFunc_api_Concept_api_Concept_L0, h3, h5, hw, e1, bareSL, hb, ih2]
theorem c_terms_isBare : ∀ (c : C), wC c ≤ 100000 → ∀ (s : St) (cx : Ctx), acallW P0 (.fn (.func F_terms_isBare) [] []) [encC c] s cx = .ret (.b (bareS c)) s := by
 refine C.ind' fun c ih hw s cx => ?_
 have hlen := wL_len c.parts
 have hw' := hw
 rw [wC_eq] at hw'
 have ihp : ∀ p ∈ c.parts, ∀ (s : St) (cx : Ctx), acallW P0 (.fn (.func F_terms_isBare) [] []) [encC p] s cx = .ret (.b (bareS p)) s := fun p hp => ih p hp (by have := wL_mem hp; omega)
 have hI : ∀ (s : St) (cx : Ctx), ∃ j : Int, acallW P0 (.fn (.func F_slices_IndexFunc_api_Concept_api_Concept) [] []) [slf c.z (c.parts.map encC), .fn (.func F_terms_isBare) [] []] s cx = .ret (.i .i64 (if bareSL c.parts = true then j else -1)) s ∧ 0 ≤ j := by
  intro s cx
  obtain ⟨j, hj, h⟩ := l_IndexFunc s ⟨cx.lim, s.length⟩ c.z c.parts (by omega) ihp c.parts 0 rfl
  refine ⟨j, go_slices_IndexFunc_api_Concept_api_Concept (by simp) ?_, hj⟩
  simp at h
  rcases Bool.eq_false_or_eq_true (bareSL c.parts) with hb | hb <;> simp [callFnW, ir_slices_IndexFunc_api_Concept_api_Concept, h, hb]
 have hC : ∀ (s : St) (cx : Ctx), acallW P0 (.fn (.func F_slices_ContainsFunc_api_Concept_api_Concept) [] []) [slf c.z (c.parts.map encC), .fn (.func F_terms_isBare) [] []] s cx = .ret (.b (bareSL c.parts)) s := by
  intro s cx
  obtain ⟨j, e1, hj⟩ := hI s ⟨cx.lim, s.length⟩
  refine go_slices_ContainsFunc_api_Concept_api_Concept (by simp) ?_
  rcases Bool.eq_false_or_eq_true (bareSL c.parts) with hb | hb <;> simp [hb] at e1 <;> simp [callFnW, ir_slices_ContainsFunc_api_Concept_api_Concept, e1, hb, hj]
 refine go_terms_isBare (by simp) ?_
 rw [bareS_eq]
 by_cases k4 : c.kind = 4
 ·rw [if_pos k4]; simp [callFnW, ir_terms_isBare, kd k4]
 ·by_cases k5 : c.kind = 5
  ·rw [if_neg k4, if_pos k5]; simp [callFnW, ir_terms_isBare, k4, kd k5, hC]
  ·rw [if_neg k4, if_neg k5]; simp [callFnW, ir_terms_isBare, k4, k5]
end Go.Ai.Z
