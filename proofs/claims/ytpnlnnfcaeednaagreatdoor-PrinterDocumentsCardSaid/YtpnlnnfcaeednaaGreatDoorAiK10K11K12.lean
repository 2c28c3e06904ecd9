/-
 Axioms: the checks, whole.
-/
import Derived.Test.YtpnlnnfcaeednaaGreatDoorAiK8K9
set_option maxRecDepth 100000
set_option linter.unusedSimpArgs false
set_option linter.unusedVariables false
set_option linter.unusedSectionVars false
namespace Go.Ai.Z
def tailK (k cl cr : Int) (bl br : Bool) : Int :=
 if (useS k).l = true ∧ cl ≠ 0 then cl else if (useS k).r = true ∧ cr ≠ 0 then cr
 else if (k = 2 ∧ (bl = true ∨ br = true)) ∨ ((k = 1 ∨ k = 4 ∨ k = 8) ∧ br = true) then 22 else 0
def checkAS (x : Ax) : Int :=
 if shapedS x = false then 22 else if namedU x (useS x.kind) = false then 20 else tailK x.kind (checkS x.left) (checkS x.right) (bareS x.left) (bareS x.right)
structure Ax.Few (x : Ax) : Prop where
 l : wC x.left ≤ 150
 r : wC x.right ≤ 150
 roles : x.roles.length ≤ 600
 rs : ∀ r ∈ x.roles, r.length ≤ 600
 role : x.role.length ≤ 600
 a : x.a.length ≤ 600
 b : x.b.length ≤ 600
theorem pk {x j : Int} (i : Int) (k : x = j) : (x = i) = (j = i) := by rw [k]
theorem dk {x j : Int} (i : Int) (k : x = j) : decide (x = i) = decide (j = i) := by subst k; rfl
set_option maxHeartbeats 2000000 in
theorem c_terms_CheckAxiom (x : Ax) (hx : x.Few) (s : St) (cx : Ctx) : acallW P0 (.fn (.func F_terms_CheckAxiom) [] []) [encA x] s cx = .ret (.i .i64 (checkAS x)) s := by
 refine go_terms_CheckAxiom (by simp) ?_
 unfold checkAS
 rcases Bool.eq_false_or_eq_true (shapedS x) with hs | hs
 ·have hk : 1 ≤ x.kind ∧ x.kind ≤ 9 := by simp [shapedS, kindOK] at hs; omega
  have b1 : 0 ≤ x.kind := by omega
  have b2 : x.kind.toNat < 10 := by omega
  have b3 : 7 ≤ 70 - x.kind.toNat * 7 := by omega
  have hu := uses_at (k := x.kind) (by omega) (by omega)
  have e1 := c_terms_isNamed x (useS x.kind) (by have := hx.roles; omega) (by have := hx.a; omega) (by have := hx.b; omega)
  have e2 := c_terms_CheckConcept x.left (by have := hx.l; omega)
  have e3 := c_terms_CheckConcept x.right (by have := hx.r; omega)
  have e4 := c_terms_isBare x.left (by have := hx.l; omega)
  have e5 := c_terms_isBare x.right (by have := hx.r; omega)
  have hk9 : x.kind = 1 ∨ x.kind = 2 ∨ x.kind = 3 ∨ x.kind = 4 ∨ x.kind = 5 ∨ x.kind = 6 ∨ x.kind = 7 ∨ x.kind = 8 ∨ x.kind = 9 := by omega
  rw [hs, if_neg (by simp)]
  rcases Bool.eq_false_or_eq_true (namedU x (useS x.kind)) with hn | hn
  ·rw [hn] at e1
   rw [hn, if_neg (by simp)]
   clear hn
   generalize hL : checkS x.left = cl at e2 ⊢
   generalize hR : checkS x.right = cr at e3 ⊢
   generalize bareS x.left = bl at e4 ⊢
   generalize bareS x.right = br at e5 ⊢
   clear hL hR hx hk
   rcases hk9 with k | k | k | k | k | k | k | k | k
   all_goals
    have d1 := dk 1 k
    have d2 := dk 2 k
    have d4 := dk 4 k
    have d8 := dk 8 k
    have kt := congrArg (fun i => tailK i cl cr bl br) k
    rw [kt]
    have ku := congrArg useS k
    rw [ku] at hu e1
    clear ku k kt
    simp [useS] at hu
    simp [useS, encU] at e1
    simp [tailK, useS]
    simp [callFnW, ir_terms_CheckAxiom, hs, b1, b2, b3, glob_uses, uses_len, hu, e1, e2, e3, e4, e5, d1, d2, d4, d8]
    repeat' (first | (split <;> (try simp only [opT_go, opF_go, cdT_go, qT_go, qN_go]) <;> (try simp [*])) | (simp only [opT_go, opF_go, cdT_go, qT_go, qN_go] <;> (try simp [*])) | omega)
  ·rw [hn] at e1
   rw [hn, if_pos rfl]
   generalize useS x.kind = u at hu e1
   simp [callFnW, ir_terms_CheckAxiom, hs, b1, b2, b3, glob_uses, uses_len, hu, e1]
 ·rw [hs, if_pos rfl]
  simp [callFnW, ir_terms_CheckAxiom, hs]
end Go.Ai.Z
namespace Go.Ai.Z
attribute [local simp] List.length_pos_iff
end Go.Ai.Z
namespace Go.Ai.Z
structure Ax.Ok (x : Ax) : Prop where
 l : x.left.Ok
 r : x.right.Ok
 roles : x.roles.length ≤ 1125899906842624
 rs : ∀ r ∈ x.roles, r.length ≤ 1125899906842624
 role : x.role.length ≤ 1125899906842624
 a : x.a.length ≤ 1125899906842624
 b : x.b.length ≤ 1125899906842624
theorem l_ref02_FewAxiom (z : Bool) (roles : List (List UInt8)) (cs : List AV) (hcs : cs[12]? = some (slf z (roles.map .s))) (hb : ∀ r ∈ roles, r.length ≤ 1125899906842624) :
  ∀ (rest : List (List UInt8)) (i n : Nat), roles.drop i = rest → n ≤ 20 * 1125899906842624 + i * 1125899906842624 → i ≤ 100 →
  ∃ (v : Nat) (j : Int), (∀ s cx, loopW (acodeW P0.glob (acallW P0) cx false ir_ref02_FewAxiom_L0) [1, 3, 4] [(1, .bx cs), (3, .v (.i .i64 n)), (4, .v (.i .i64 i))] s =
   .exit 0 [(1, .bx cs), (3, .v (.i .i64 v)), (4, .v (.i .i64 j)), (29, .v (.b false))] s) ∧ n ≤ v ∧ (roles.length ≤ 100 → ∀ r ∈ rest, r.length ≤ v)
 | [], i, n, h, hn, hi => by
  have h1 : ¬ i < roles.length := Nat.not_lt.2 (drop_nil h)
  refine ⟨n, i, fun s cx => loop_step fun K hK => ?_, Nat.le_refl _, fun _ r hr => by cases hr⟩
  simp [ir_ref02_FewAxiom_L0, hcs, h1]
 | p :: r, i, n, h, hn, hi => by
  obtain ⟨h1, h2, h3, h4⟩ := drop_cons h
  have h5 := h4 h3
  have hp : p ∈ roles := by rw [← h5]; exact List.getElem_mem h3
  have hbp := hb p hp
  have hw := wI (i := i) (by omega)
  by_cases hi' : i < 100
  ·obtain ⟨v, j, ih, q1, q2⟩ := l_ref02_FewAxiom z roles cs hcs hb r (i + 1) (n + p.length) h2 (by omega) (by omega)
   refine ⟨v, j, fun s cx => loop_step fun K hK => ?_, by omega, fun hl y hy => ?_⟩
   ·have ih := ih s cx
    rw [← hK, show ((i + 1 : Nat) : Int) = (i : Int) + 1 from rfl] at ih
    clear hK h4
    have w3 : IntKind.i64.wrap ((n : Int) + p.length) = (n : Int) + p.length := w64 (by omega) (by omega)
    have c1 : ((i : Int) < 100) := by omega
    simp at ih
    simp [ir_ref02_FewAxiom_L0, hcs, h3, h5, hw, w3, c1, ih]
   ·rcases List.mem_cons.1 hy with rfl | hy
    ·omega
    ·exact q2 hl y hy
  ·have c1 : ¬ ((i : Int) < 100) := by omega
   refine ⟨n, i, fun s cx => loop_step fun K hK => ?_, Nat.le_refl _, fun hl => by omega⟩
   simp [ir_ref02_FewAxiom_L0, hcs, h3, c1]
theorem c_ref02_FewAxiom (x : Ax) (hx : x.Ok) : ∃ b : Bool, (∀ s cx, acallW P0 (.fn (.func F_ref02_FewAxiom) [] []) [encA x] s cx = .ret (.b b) s) ∧ (b = true → x.Few) := by
 obtain ⟨ol, or, o1, o2, o3, o4, o5⟩ := hx
 obtain ⟨bl, el, hbl⟩ := c_ref02_Few x.left ol
 obtain ⟨br, er, hbr⟩ := c_ref02_Few x.right or
 obtain ⟨v, j, h, q1, q2⟩ := l_ref02_FewAxiom x.z x.roles (cellsA x) rfl o2 x.roles 0 (x.role.length + x.a.length + x.b.length + 10 * x.roles.length) rfl (by omega) (by omega)
 refine ⟨decide (v ≤ 600) && bl && br, fun s cx => go_ref02_FewAxiom (by simp) ?_, fun hb => ?_⟩
 ·have h := h s ⟨s.length, s.length⟩
  have w1 : IntKind.i64.wrap ((x.role.length : Int) + x.a.length) = (x.role.length : Int) + x.a.length := w64 (by omega) (by omega)
  have w2 : IntKind.i64.wrap ((x.role.length : Int) + x.a.length + x.b.length) = (x.role.length : Int) + x.a.length + x.b.length := w64 (by omega) (by omega)
  have w3 : IntKind.i64.wrap (10 * (x.roles.length : Int)) = 10 * (x.roles.length : Int) := w64 (by omega) (by omega)
  have w4 : IntKind.i64.wrap ((x.role.length : Int) + x.a.length + x.b.length + 10 * x.roles.length) = (x.role.length : Int) + x.a.length + x.b.length + 10 * x.roles.length := w64 (by omega) (by omega)
  have c1 : ((v : Int) ≤ 600) = (v ≤ 600) := by simp; omega
  simp [cellsA] at h
  by_cases hv : v ≤ 600 <;> cases bl <;> cases br <;> simp [callFnW, ir_ref02_FewAxiom, w1, w2, w3, w4, h, el, er, c1, hv]
 ·simp only [Bool.and_eq_true, decide_eq_true_eq] at hb
  obtain ⟨⟨hv, h1⟩, h2⟩ := hb
  exact ⟨hbl h1, hbr h2, by omega, fun r hr => by have := q2 (by omega) r hr; omega, by omega, by omega, by omega⟩
theorem l_ref02_FewAxioms (z : Bool) (l : List Ax) (hl : l.length ≤ 1000) (hx : ∀ x ∈ l, x.Ok) :
  ∀ (rest : List Ax) (i : Nat), l.drop i = rest →
  ∃ (b : Bool) (j : Int), (∀ s cx, loopW (acodeW P0.glob (acallW P0) cx false ir_ref02_FewAxioms_L0) [0, 5] [(0, .v (slf z (l.map encA))), (5, .v (.i .i64 i))] s =
   if b = true then .exit 0 [(0, .v (slf z (l.map encA))), (5, .v (.i .i64 j)), (13, .v (.b false))] s else .ret [(4, .v (.b false))] s) ∧ (b = true → ∀ x ∈ rest, x.Few)
 | [], i, h => by
  have h1 : ¬ i < l.length := Nat.not_lt.2 (drop_nil h)
  refine ⟨true, i, fun s cx => loop_step fun K hK => ?_, fun _ r hr => by cases hr⟩
  simp [ir_ref02_FewAxioms_L0, h1]
 | p :: r, i, h => by
  obtain ⟨h1, h2, h3, h4⟩ := drop_cons h
  have h5 := h4 h3
  have hp : p ∈ l := by rw [← h5]; exact List.getElem_mem h3
  have hw := wI (i := i) (by omega)
  obtain ⟨b1, e1, f1⟩ := c_ref02_FewAxiom p (hx p hp)
  cases b1 with
  | false =>
   refine ⟨false, i, fun s cx => loop_step fun K hK => ?_, fun h => by cases h⟩
   clear h4
   simp [ir_ref02_FewAxioms_L0, h3, h5, hw, e1]
  | true =>
   obtain ⟨b, j, ih, q⟩ := l_ref02_FewAxioms z l hl hx r (i + 1) h2
   refine ⟨b, j, fun s cx => loop_step fun K hK => ?_, fun hb y hy => ?_⟩
   ·have ih := ih s cx
    rw [← hK, show ((i + 1 : Nat) : Int) = (i : Int) + 1 from rfl] at ih
    clear hK h4
    simp [ir_ref02_FewAxioms_L0, h3, h5, hw, e1, ih]
   ·rcases List.mem_cons.1 hy with rfl | hy
    ·exact f1 rfl
    ·exact q hb y hy
theorem c_ref02_FewAxioms' (m : Nat) (hm : m ≤ 1000) (z : Bool) (l : List Ax) (hl : l.length ≤ 1125899906842624) (hx : ∀ x ∈ l, x.Ok) : ∃ b : Bool, (∀ s cx, acallW P0 (.fn (.func F_ref02_FewAxioms) [] []) [slf z (l.map encA), .i .i64 m] s cx = .ret (.b b) s) ∧ (b = true → l.length ≤ m ∧ ∀ x ∈ l, x.Few) := by
 by_cases h : l.length ≤ m
 ·have c1 : ¬ ((m : Int) < l.length) := by omega
  obtain ⟨b, j, e, q⟩ := l_ref02_FewAxioms z l (by omega) hx l 0 rfl
  refine ⟨b, fun s cx => go_ref02_FewAxioms (by simp) ?_, fun hb => ⟨h, q hb⟩⟩
  simp at e
  cases b <;> simp [callFnW, ir_ref02_FewAxioms, c1, h, e]
 ·have c1 : (m : Int) < l.length := by omega
  refine ⟨false, fun s cx => go_ref02_FewAxioms (by simp) ?_, fun h => by cases h⟩
  have c2 : m < l.length := by omega
  simp [callFnW, ir_ref02_FewAxioms, c1, c2]
end Go.Ai.Z
