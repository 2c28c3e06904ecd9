/-
 Axioms: their statements, as the reference writes them.
-/
import Derived.Test.YtpnlnnfcaeednaaGreatDoorAiK10K11K12
set_option maxRecDepth 100000
set_option linter.unusedSimpArgs false
set_option linter.unusedVariables false
set_option linter.unusedSectionVars false
namespace Go.Ai.Z
def statS (x : Ax) : List UInt8 :=
 if x.kind = 1 then textS x.left ++ [32, 115, 117, 98, 32] ++ textS x.right
 else if x.kind = 2 then textS x.left ++ [32, 115, 97, 109, 101, 32] ++ textS x.right
 else if x.kind = 3 then textS x.left ++ [32, 100, 105, 115, 106, 111, 105, 110, 116, 32] ++ textS x.right
 else if x.kind = 4 then [100, 111, 109, 97, 105, 110, 32] ++ x.role ++ [32] ++ textS x.right
 else if x.kind = 5 then [114, 111, 108, 101, 32] ++ x.roles.headD [] ++ [32, 115, 117, 98, 32] ++ x.role
 else if x.kind = 7 then [114, 101, 102, 108, 101, 120, 105, 118, 101, 32] ++ x.role
 else if x.kind = 8 then [116, 121, 112, 101, 32] ++ x.a ++ [32] ++ textS x.right
 else if x.kind = 9 then [108, 105, 110, 107, 32] ++ x.a ++ [32] ++ x.role ++ [32] ++ x.b
 else [99, 104, 97, 105, 110] ++ x.roles.flatMap (fun r => 32 :: r) ++ [32, 115, 117, 98, 32] ++ x.role
def axS (x : Ax) : List UInt8 :=
 if x.kind = 5 ∨ x.kind = 6 ∨ x.kind = 7 then (if x.op = true then statS x else [112, 114, 105, 118, 97, 116, 101, 32] ++ statS x)
 else (if x.op = true then [111, 112, 101, 110, 32] ++ statS x else statS x)
structure Ax.Good (x : Ax) : Prop where
 k : x.kind = 1 ∨ x.kind = 2 ∨ x.kind = 3 ∨ x.kind = 4 ∨ x.kind = 5 ∨ x.kind = 6 ∨ x.kind = 7 ∨ x.kind = 8 ∨ x.kind = 9
 l : x.kind = 1 ∨ x.kind = 2 ∨ x.kind = 3 → walkS x.left = 0
 r : x.kind = 1 ∨ x.kind = 2 ∨ x.kind = 3 ∨ x.kind = 4 ∨ x.kind = 8 → walkS x.right = 0
 r5 : x.kind = 5 → x.roles.length = 1
 r6 : x.kind = 6 → 2 ≤ x.roles.length ∧ x.roles.length ≤ 4
theorem walk_of {c : C} (h : checkS c = 0) : walkS c = 0 := by
 unfold checkS at h; split at h
 ·cases h
 ·exact h
theorem good {x : Ax} (h : checkAS x = 0) : x.Good := by
 unfold checkAS at h
 split at h
 ·cases h
 split at h
 ·cases h
 rename_i hs hn
 have hs : shapedS x = true := by simpa using hs
 unfold tailK at h
 split at h
 ·rename_i q; exact absurd h q.2
 split at h
 ·rename_i q; exact absurd h q.2
 rename_i ql qr
 have hk : 1 ≤ x.kind ∧ x.kind ≤ 9 := by simp [shapedS, kindOK] at hs; omega
 have hr : (useS x.kind).lo ≤ x.roles.length ∧ (x.roles.length : Int) ≤ (useS x.kind).hi := by
  simp only [shapedS, Bool.and_eq_true, decide_eq_true_eq] at hs; exact ⟨hs.1.2, hs.2⟩
 have hk9 : x.kind = 1 ∨ x.kind = 2 ∨ x.kind = 3 ∨ x.kind = 4 ∨ x.kind = 5 ∨ x.kind = 6 ∨ x.kind = 7 ∨ x.kind = 8 ∨ x.kind = 9 := by omega
 refine ⟨hk9, fun q => ?_, fun q => ?_, fun q => ?_, fun q => ?_⟩
 ·have hu : (useS x.kind).l = true := by rcases q with q | q | q <;> rw [q] <;> rfl
  exact walk_of (Classical.not_not.1 fun e => ql ⟨hu, e⟩)
 ·have hu : (useS x.kind).r = true := by rcases q with q | q | q | q | q <;> rw [q] <;> rfl
  exact walk_of (Classical.not_not.1 fun e => qr ⟨hu, e⟩)
 ·rw [q] at hr; simp [useS] at hr; omega
 ·rw [q] at hr; simp [useS] at hr; omega
theorem text_lt {c : C} (hw : wC c ≤ 150) (hv : walkS c = 0) : (textS c).length ≤ 20000 := by have := text_len c hv; omega
end Go.Ai.Z
namespace Go.Ai.Z
theorem fl_len : ∀ l : List (List UInt8), (∀ r ∈ l, r.length ≤ 600) → (l.flatMap fun r => 32 :: r).length ≤ l.length * 601 := by
 intro l; induction l with
 | nil => simp
 | cons a t ih => intro h; have h1 := h a (by simp); have h2 := ih (fun r hr => h r (by simp [hr])); simp only [List.flatMap_cons, List.length_append, List.length_cons]; omega
theorem stat_len {x : Ax} (hx : x.Few) (hg : x.Good) : (statS x).length ≤ 45000 := by
 have hro := hx.role
 have ha := hx.a
 have hbb := hx.b
 have ll : walkS x.left = 0 → _ := fun h => text_lt hx.l h
 have lr : walkS x.right = 0 → _ := fun h => text_lt hx.r h
 unfold statS
 rcases hg.k with k | k | k | k | k | k | k | k | k
 ·rw [if_pos k]; have ll := ll (hg.l (by omega)); have lr := lr (hg.r (by omega)); simp; omega
 ·rw [if_neg (by omega), if_pos k]; have ll := ll (hg.l (by omega)); have lr := lr (hg.r (by omega)); simp; omega
 ·rw [if_neg (by omega), if_neg (by omega), if_pos k]; have ll := ll (hg.l (by omega)); have lr := lr (hg.r (by omega)); simp; omega
 ·rw [if_neg (by omega), if_neg (by omega), if_neg (by omega), if_pos k]; have lr := lr (hg.r (by omega)); simp; omega
 ·rw [if_neg (by omega), if_neg (by omega), if_neg (by omega), if_neg (by omega), if_pos k]
  have hr := hg.r5 k
  rcases hps : x.roles with _ | ⟨a, _ | ⟨b, r⟩⟩
  ·simp [hps] at hr
  ·have hal := hx.rs a (by simp [hps])
   simp; omega
  ·simp [hps] at hr
 ·rw [if_neg (by omega), if_neg (by omega), if_neg (by omega), if_neg (by omega), if_neg (by omega), if_neg (by omega), if_neg (by omega), if_neg (by omega)]
  have h1 := fl_len x.roles hx.rs
  have h2 := hg.r6 k
  generalize (x.roles.flatMap fun r => 32 :: r) = fl at h1 ⊢
  simp; omega
 ·rw [if_neg (by omega), if_neg (by omega), if_neg (by omega), if_neg (by omega), if_neg (by omega), if_pos k]; simp; omega
 ·rw [if_neg (by omega), if_neg (by omega), if_neg (by omega), if_neg (by omega), if_neg (by omega), if_neg (by omega), if_pos k]; have lr := lr (hg.r (by omega)); simp; omega
 ·rw [if_neg (by omega), if_neg (by omega), if_neg (by omega), if_neg (by omega), if_neg (by omega), if_neg (by omega), if_neg (by omega), if_pos k]; simp; omega
theorem ax_len {x : Ax} (hx : x.Few) (hg : x.Good) : (axS x).length ≤ 45010 := by
 have := stat_len hx hg
 unfold axS; split <;> split <;> simp <;> omega
theorem fold_op {x : Ax} {b : Bool} (h : x.op = b) : AV.ag [.i .i64 x.kind, .b b, .i .i64 x.left.kind, .s x.left.name, .i .i64 x.left.lo, .i .i64 x.left.hi, slf x.left.z (x.left.parts.map encC),
 .i .i64 x.right.kind, .s x.right.name, .i .i64 x.right.lo, .i .i64 x.right.hi, slf x.right.z (x.right.parts.map encC), slf x.z (x.roles.map .s), .s x.role, .s x.a, .s x.b] = encA x := by subst h; rfl
end Go.Ai.Z
namespace Go.Ai.Z
theorem c_printer_sub (x : Ax) (hx : x.Few) (hl : walkS x.left = 0) (hr : walkS x.right = 0) (s : St) (cx : Ctx) : acallW P0 (.fn (.func F_printer_printer_sub) [] []) [PV, encA x] s cx = .ret (.s (textS x.left ++ [32, 115, 117, 98, 32] ++ textS x.right)) s := by
 refine go_printer_printer_sub (by simp) ?_
 have l1 := text_lt hx.l hl
 have l2 := text_lt hx.r hr
 have e1 := c_printer_text x.left (by have := hx.l; omega) hl
 have e2 := c_printer_text x.right (by have := hx.r; omega) hr
 have e3 := c_printer_words [textS x.left, [115, 117, 98], textS x.right] (by simp [joinL]; omega) (by simp)
 simp at e3
 simp [callFnW, ir_printer_printer_sub, e1, e2, e3, joinL, List.range_succ]
theorem c_printer_same (x : Ax) (hx : x.Few) (hl : walkS x.left = 0) (hr : walkS x.right = 0) (s : St) (cx : Ctx) : acallW P0 (.fn (.func F_printer_printer_same) [] []) [PV, encA x] s cx = .ret (.s (textS x.left ++ [32, 115, 97, 109, 101, 32] ++ textS x.right)) s := by
 refine go_printer_printer_same (by simp) ?_
 have l1 := text_lt hx.l hl
 have l2 := text_lt hx.r hr
 have e1 := c_printer_text x.left (by have := hx.l; omega) hl
 have e2 := c_printer_text x.right (by have := hx.r; omega) hr
 have e3 := c_printer_words [textS x.left, [115, 97, 109, 101], textS x.right] (by simp [joinL]; omega) (by simp)
 simp at e3
 simp [callFnW, ir_printer_printer_same, e1, e2, e3, joinL, List.range_succ]
theorem c_printer_disjoint (x : Ax) (hx : x.Few) (hl : walkS x.left = 0) (hr : walkS x.right = 0) (s : St) (cx : Ctx) : acallW P0 (.fn (.func F_printer_printer_disjoint) [] []) [PV, encA x] s cx = .ret (.s (textS x.left ++ [32, 100, 105, 115, 106, 111, 105, 110, 116, 32] ++ textS x.right)) s := by
 refine go_printer_printer_disjoint (by simp) ?_
 have l1 := text_lt hx.l hl
 have l2 := text_lt hx.r hr
 have e1 := c_printer_text x.left (by have := hx.l; omega) hl
 have e2 := c_printer_text x.right (by have := hx.r; omega) hr
 have e3 := c_printer_words [textS x.left, [100, 105, 115, 106, 111, 105, 110, 116], textS x.right] (by simp [joinL]; omega) (by simp)
 simp at e3
 simp [callFnW, ir_printer_printer_disjoint, e1, e2, e3, joinL, List.range_succ]
theorem c_printer_domain (x : Ax) (hx : x.Few) (hr : walkS x.right = 0) (s : St) (cx : Ctx) : acallW P0 (.fn (.func F_printer_printer_domain) [] []) [PV, encA x] s cx = .ret (.s ([100, 111, 109, 97, 105, 110, 32] ++ x.role ++ [32] ++ textS x.right)) s := by
 refine go_printer_printer_domain (by simp) ?_
 have l1 := hx.role
 have l2 := text_lt hx.r hr
 have e2 := c_printer_text x.right (by have := hx.r; omega) hr
 have e3 := c_printer_words [[100, 111, 109, 97, 105, 110], x.role, textS x.right] (by simp [joinL]; omega) (by simp)
 simp at e3
 simp [callFnW, ir_printer_printer_domain, e2, e3, joinL, List.range_succ]
theorem c_printer_typing (x : Ax) (hx : x.Few) (hr : walkS x.right = 0) (s : St) (cx : Ctx) : acallW P0 (.fn (.func F_printer_printer_typing) [] []) [PV, encA x] s cx = .ret (.s ([116, 121, 112, 101, 32] ++ x.a ++ [32] ++ textS x.right)) s := by
 refine go_printer_printer_typing (by simp) ?_
 have l1 := hx.a
 have l2 := text_lt hx.r hr
 have e2 := c_printer_text x.right (by have := hx.r; omega) hr
 have e3 := c_printer_words [[116, 121, 112, 101], x.a, textS x.right] (by simp [joinL]; omega) (by simp)
 simp at e3
 simp [callFnW, ir_printer_printer_typing, e2, e3, joinL, List.range_succ]
theorem c_printer_role (x : Ax) (hx : x.Few) (hr : x.roles.length = 1) (s : St) (cx : Ctx) : acallW P0 (.fn (.func F_printer_printer_role) [] []) [PV, encA x] s cx = .ret (.s ([114, 111, 108, 101, 32] ++ x.roles.headD [] ++ [32, 115, 117, 98, 32] ++ x.role)) s := by
 refine go_printer_printer_role (by simp) ?_
 have l1 := hx.role
 rcases hps : x.roles with _ | ⟨a, _ | ⟨b, r⟩⟩
 ·simp [hps] at hr
 ·have l2 := hx.rs a (by simp [hps])
  have e3 := c_printer_words [[114, 111, 108, 101], a, [115, 117, 98], x.role] (by simp [joinL]; omega) (by simp)
  simp at e3
  simp [callFnW, ir_printer_printer_role, e3, joinL, hps, List.range_succ]
 ·simp [hps] at hr
theorem c_printer_chain (x : Ax) (hx : x.Few) (hr : 2 ≤ x.roles.length ∧ x.roles.length ≤ 4) (s : St) (cx : Ctx) : acallW P0 (.fn (.func F_printer_printer_chain) [] []) [PV, encA x] s cx = .ret (.s ([99, 104, 97, 105, 110] ++ x.roles.flatMap (fun r => 32 :: r) ++ [32, 115, 117, 98, 32] ++ x.role)) s := by
 refine go_printer_printer_chain (by simp) ?_
 have l1 := hx.role
 have hfl := fl_len x.roles hx.rs
 rcases hps : x.roles with _ | ⟨a, r⟩
 ·simp [hps] at hr
 ·rw [hps] at hfl hr
  simp only [List.flatMap_cons, List.length_append, List.length_cons] at hfl hr
  generalize hfr : (r.flatMap fun r => 32 :: r) = fr at hfl ⊢
  have ej : joinL [32] (a :: r) = a ++ fr := by simp [joinL, ← hfr]
  have e1 := c_printer_words (a :: r) (by rw [ej]; simp; omega) (by simp; omega)
  rw [ej] at e1
  have e3 := c_printer_words [[99, 104, 97, 105, 110], a ++ fr, [115, 117, 98], x.role] (by simp [joinL]; omega) (by simp)
  simp at e1 e3
  simp [callFnW, ir_printer_printer_chain, e1, e3, joinL, hps, List.range_succ, hfr]
theorem c_printer_reflexive (x : Ax) (hx : x.Few) (s : St) (cx : Ctx) : acallW P0 (.fn (.func F_printer_printer_reflexive) [] []) [PV, encA x] s cx = .ret (.s ([114, 101, 102, 108, 101, 120, 105, 118, 101, 32] ++ x.role)) s := by
 refine go_printer_printer_reflexive (by simp) ?_
 have l1 := hx.role
 have e3 := c_printer_words [[114, 101, 102, 108, 101, 120, 105, 118, 101], x.role] (by simp [joinL]; omega) (by simp)
 simp at e3
 simp [callFnW, ir_printer_printer_reflexive, e3, joinL, List.range_succ]
theorem c_printer_link (x : Ax) (hx : x.Few) (s : St) (cx : Ctx) : acallW P0 (.fn (.func F_printer_printer_link) [] []) [PV, encA x] s cx = .ret (.s ([108, 105, 110, 107, 32] ++ x.a ++ [32] ++ x.role ++ [32] ++ x.b)) s := by
 refine go_printer_printer_link (by simp) ?_
 have l1 := hx.role
 have l2 := hx.a
 have l3 := hx.b
 have e3 := c_printer_words [[108, 105, 110, 107], x.a, x.role, x.b] (by simp [joinL]; omega) (by simp)
 simp at e3
 simp [callFnW, ir_printer_printer_link, e3, joinL, List.range_succ]
theorem get_PV2 : pvCs[1]? = some (.im [(.i .i64 1, fnv F_printer_printer_sub), (.i .i64 2, fnv F_printer_printer_same), (.i .i64 3, fnv F_printer_printer_disjoint), (.i .i64 4, fnv F_printer_printer_domain), (.i .i64 5, fnv F_printer_printer_role), (.i .i64 6, fnv F_printer_printer_chain), (.i .i64 7, fnv F_printer_printer_reflexive), (.i .i64 8, fnv F_printer_printer_typing), (.i .i64 9, fnv F_printer_printer_link)]) := rfl
attribute [local simp] find keyEq keyK
set_option maxHeartbeats 4000000 in
theorem c_printer_axiom (x : Ax) (hx : x.Few) (hg : x.Good) (s : St) (cx : Ctx) : acallW P0 (.fn (.func F_printer_printer_axiom) [] []) [PV, encA x] s cx = .ret (.s (axS x)) s := by
 refine go_printer_printer_axiom (by simp) ?_
 have hl := stat_len hx hg
 have eo := c_printer_words [[111, 112, 101, 110], statS x] (by simp [joinL]; omega) (by simp)
 have ep := c_printer_words [[112, 114, 105, 118, 97, 116, 101], statS x] (by simp [joinL]; omega) (by simp)
 simp [joinL] at eo ep
 unfold axS
 rcases hg.k with k | k | k | k | k | k | k | k | k
 ·have e2 : ∀ (s : St) (cx : Ctx), acallW P0 (.fn (.func F_printer_printer_sub) [] []) [PV, encA x] s cx = .ret (.s (statS x)) s := fun s cx => by
   unfold statS; rw [if_pos k]; exact c_printer_sub x hx (hg.l (by omega)) (hg.r (by omega)) s cx
  simp only [pk 5 k, pk 6 k, pk 7 k]
  rcases Bool.eq_false_or_eq_true x.op with ho | ho <;> have ho' := fold_op ho <;>
   simp [callFnW, ir_printer_printer_axiom, get_PV2, dk 1 k, dk 2 k, dk 3 k, dk 4 k, dk 5 k, dk 6 k, dk 7 k, dk 8 k, dk 9 k, fnv, e2, eo, ep, ho, ho', List.range_succ]
 ·have e2 : ∀ (s : St) (cx : Ctx), acallW P0 (.fn (.func F_printer_printer_same) [] []) [PV, encA x] s cx = .ret (.s (statS x)) s := fun s cx => by
   unfold statS; rw [if_neg (by omega), if_pos k]; exact c_printer_same x hx (hg.l (by omega)) (hg.r (by omega)) s cx
  simp only [pk 5 k, pk 6 k, pk 7 k]
  rcases Bool.eq_false_or_eq_true x.op with ho | ho <;> have ho' := fold_op ho <;>
   simp [callFnW, ir_printer_printer_axiom, get_PV2, dk 1 k, dk 2 k, dk 3 k, dk 4 k, dk 5 k, dk 6 k, dk 7 k, dk 8 k, dk 9 k, fnv, e2, eo, ep, ho, ho', List.range_succ]
 ·have e2 : ∀ (s : St) (cx : Ctx), acallW P0 (.fn (.func F_printer_printer_disjoint) [] []) [PV, encA x] s cx = .ret (.s (statS x)) s := fun s cx => by
   unfold statS; rw [if_neg (by omega), if_neg (by omega), if_pos k]; exact c_printer_disjoint x hx (hg.l (by omega)) (hg.r (by omega)) s cx
  simp only [pk 5 k, pk 6 k, pk 7 k]
  rcases Bool.eq_false_or_eq_true x.op with ho | ho <;> have ho' := fold_op ho <;>
   simp [callFnW, ir_printer_printer_axiom, get_PV2, dk 1 k, dk 2 k, dk 3 k, dk 4 k, dk 5 k, dk 6 k, dk 7 k, dk 8 k, dk 9 k, fnv, e2, eo, ep, ho, ho', List.range_succ]
 ·have e2 : ∀ (s : St) (cx : Ctx), acallW P0 (.fn (.func F_printer_printer_domain) [] []) [PV, encA x] s cx = .ret (.s (statS x)) s := fun s cx => by
   unfold statS; rw [if_neg (by omega), if_neg (by omega), if_neg (by omega), if_pos k]; exact c_printer_domain x hx (hg.r (by omega)) s cx
  simp only [pk 5 k, pk 6 k, pk 7 k]
  rcases Bool.eq_false_or_eq_true x.op with ho | ho <;> have ho' := fold_op ho <;>
   simp [callFnW, ir_printer_printer_axiom, get_PV2, dk 1 k, dk 2 k, dk 3 k, dk 4 k, dk 5 k, dk 6 k, dk 7 k, dk 8 k, dk 9 k, fnv, e2, eo, ep, ho, ho', List.range_succ]
 ·have e2 : ∀ (s : St) (cx : Ctx), acallW P0 (.fn (.func F_printer_printer_role) [] []) [PV, encA x] s cx = .ret (.s (statS x)) s := fun s cx => by
   unfold statS; rw [if_neg (by omega), if_neg (by omega), if_neg (by omega), if_neg (by omega), if_pos k]; exact c_printer_role x hx (hg.r5 k) s cx
  simp only [pk 5 k, pk 6 k, pk 7 k]
  rcases Bool.eq_false_or_eq_true x.op with ho | ho <;> have ho' := fold_op ho <;>
   simp [callFnW, ir_printer_printer_axiom, get_PV2, dk 1 k, dk 2 k, dk 3 k, dk 4 k, dk 5 k, dk 6 k, dk 7 k, dk 8 k, dk 9 k, fnv, e2, eo, ep, ho, ho', List.range_succ]
 ·have e2 : ∀ (s : St) (cx : Ctx), acallW P0 (.fn (.func F_printer_printer_chain) [] []) [PV, encA x] s cx = .ret (.s (statS x)) s := fun s cx => by
   unfold statS; rw [if_neg (by omega), if_neg (by omega), if_neg (by omega), if_neg (by omega), if_neg (by omega), if_neg (by omega), if_neg (by omega), if_neg (by omega)]; exact c_printer_chain x hx (hg.r6 k) s cx
  simp only [pk 5 k, pk 6 k, pk 7 k]
  rcases Bool.eq_false_or_eq_true x.op with ho | ho <;> have ho' := fold_op ho <;>
   simp [callFnW, ir_printer_printer_axiom, get_PV2, dk 1 k, dk 2 k, dk 3 k, dk 4 k, dk 5 k, dk 6 k, dk 7 k, dk 8 k, dk 9 k, fnv, e2, eo, ep, ho, ho', List.range_succ]
 ·have e2 : ∀ (s : St) (cx : Ctx), acallW P0 (.fn (.func F_printer_printer_reflexive) [] []) [PV, encA x] s cx = .ret (.s (statS x)) s := fun s cx => by
   unfold statS; rw [if_neg (by omega), if_neg (by omega), if_neg (by omega), if_neg (by omega), if_neg (by omega), if_pos k]; exact c_printer_reflexive x hx s cx
  simp only [pk 5 k, pk 6 k, pk 7 k]
  rcases Bool.eq_false_or_eq_true x.op with ho | ho <;> have ho' := fold_op ho <;>
   simp [callFnW, ir_printer_printer_axiom, get_PV2, dk 1 k, dk 2 k, dk 3 k, dk 4 k, dk 5 k, dk 6 k, dk 7 k, dk 8 k, dk 9 k, fnv, e2, eo, ep, ho, ho', List.range_succ]
 ·have e2 : ∀ (s : St) (cx : Ctx), acallW P0 (.fn (.func F_printer_printer_typing) [] []) [PV, encA x] s cx = .ret (.s (statS x)) s := fun s cx => by
   unfold statS; rw [if_neg (by omega), if_neg (by omega), if_neg (by omega), if_neg (by omega), if_neg (by omega), if_neg (by omega), if_pos k]; exact c_printer_typing x hx (hg.r (by omega)) s cx
  simp only [pk 5 k, pk 6 k, pk 7 k]
  rcases Bool.eq_false_or_eq_true x.op with ho | ho <;> have ho' := fold_op ho <;>
   simp [callFnW, ir_printer_printer_axiom, get_PV2, dk 1 k, dk 2 k, dk 3 k, dk 4 k, dk 5 k, dk 6 k, dk 7 k, dk 8 k, dk 9 k, fnv, e2, eo, ep, ho, ho', List.range_succ]
 ·have e2 : ∀ (s : St) (cx : Ctx), acallW P0 (.fn (.func F_printer_printer_link) [] []) [PV, encA x] s cx = .ret (.s (statS x)) s := fun s cx => by
   unfold statS; rw [if_neg (by omega), if_neg (by omega), if_neg (by omega), if_neg (by omega), if_neg (by omega), if_neg (by omega), if_neg (by omega), if_pos k]; exact c_printer_link x hx s cx
  simp only [pk 5 k, pk 6 k, pk 7 k]
  rcases Bool.eq_false_or_eq_true x.op with ho | ho <;> have ho' := fold_op ho <;>
   simp [callFnW, ir_printer_printer_axiom, get_PV2, dk 1 k, dk 2 k, dk 3 k, dk 4 k, dk 5 k, dk 6 k, dk 7 k, dk 8 k, dk 9 k, fnv, e2, eo, ep, ho, ho', List.range_succ]
end Go.Ai.Z
namespace Go.Ai.Z
@[simp] theorem bytesApp (a b : List UInt8) : bytesAV (a ++ b) = bytesAV a ++ bytesAV b := by simp [bytesAV]
@[simp] theorem bytesLen (a : List UInt8) : (bytesAV a).length = a.length := by simp [bytesAV]
@[simp] theorem bytesNil : bytesAV [] = [] := rfl
@[simp] theorem bytesTwo : bytesAV [46, 10] = [.i .u8 46, .i .u8 10] := rfl
def docB (l : List Ax) : List UInt8 := l.flatMap fun x => axS x ++ [46, 10]
def docE : List Ax → Int
 | [] => 0
 | x :: r => if checkAS x = 0 then docE r else checkAS x
theorem docB_cons (x : Ax) (r : List Ax) : docB (x :: r) = axS x ++ [46, 10] ++ docB r := by simp [docB]
theorem l_printer_Document0 (s : St) (cx : Ctx) (z : Bool) (l : List Ax) (hl : l.length ≤ 20) (hx : ∀ x ∈ l, x.Few) :
  ∀ (rest : List Ax) (i : Nat), l.drop i = rest →
  ∃ j : Int, loopW (acodeW P0.glob (acallW P0) cx false ir_printer_Document_L0) [0, 2, 10, 11, 12] [(0, .v (slf z (l.map encA))), (2, .own false T_uint8_0 1 []), (10, .v (slf z (l.map encA))), (11, .v (.i .i64 l.length)), (12, .v (.i .i64 i))] s =
   if docE rest = 0 then .exit 0 [(0, .v (slf z (l.map encA))), (2, .own false T_uint8_0 1 []), (10, .v (slf z (l.map encA))), (11, .v (.i .i64 l.length)), (12, .v (.i .i64 j)), (13, .v (.b false))] s else .ret [(2, .own false T_uint8_0 1 []), (3, .v (.i .i64 (docE rest)))] s
 | [], i, h => by
  have h1 : ¬ i < l.length := Nat.not_lt.2 (drop_nil h)
  refine ⟨i, loop_step fun K hK => ?_⟩
  simp [ir_printer_Document_L0, h1, docE]
 | p :: r, i, h => by
  obtain ⟨h1, h2, h3, h4⟩ := drop_cons h
  have h5 := h4 h3
  have hf := hx p (by rw [← h5]; exact List.getElem_mem h3)
  have hwi := wI (i := i) (by omega)
  have e1 := c_terms_CheckAxiom p hf
  by_cases h0 : checkAS p = 0
  ·obtain ⟨j, ih2⟩ := l_printer_Document0 s cx z l hl hx r (i + 1) h2
   refine ⟨j, loop_step fun K hK => ?_⟩
   rw [← hK, show ((i + 1 : Nat) : Int) = (i : Int) + 1 from rfl] at ih2
   clear hK h4 hx
   simp [ir_printer_Document_L0, h3, h5, hwi, e1, h0, docE, ih2]
  ·refine ⟨i, loop_step fun K hK => ?_⟩
   clear hK h4 hx
   simp [ir_printer_Document_L0, h3, h5, hwi, e1, h0, docE]
theorem l_printer_Document1 (s : St) (cx : Ctx) (z : Bool) (l : List Ax) (hl : l.length ≤ 20) (hx : ∀ x ∈ l, x.Few) :
  ∀ (rest : List Ax) (i : Nat) (t : List UInt8), l.drop i = rest → docE rest = 0 → t.length ≤ 65536 →
  ∃ j : Int, loopW (acodeW P0.glob (acallW P0) cx false ir_printer_Document_L1) [2, 7, 23, 24, 25] [(2, .own false T_uint8_0 1 (bytesAV t)), (7, .bx pvCs), (23, .v (slf z (l.map encA))), (24, .v (.i .i64 l.length)), (25, .v (.i .i64 i))] s =
   if 65536 < (t ++ docB rest).length then .ret [(2, .own false T_uint8_0 1 []), (3, .v (.i .i64 2))] s else .exit 2 [(2, .own false T_uint8_0 1 (bytesAV (t ++ docB rest))), (7, .bx pvCs), (23, .v (slf z (l.map encA))), (24, .v (.i .i64 l.length)), (25, .v (.i .i64 j)), (26, .v (.b false))] s
 | [], i, t, h, hd, ht => by
  have h1 : ¬ i < l.length := Nat.not_lt.2 (drop_nil h)
  have c1 : ¬ 65536 < t.length := by omega
  refine ⟨i, loop_step fun K hK => ?_⟩
  simp [ir_printer_Document_L1, h1, docB, c1]
 | p :: r, i, t, h, hd, ht => by
  obtain ⟨h1, h2, h3, h4⟩ := drop_cons h
  have h5 := h4 h3
  have hf := hx p (by rw [← h5]; exact List.getElem_mem h3)
  have hwi := wI (i := i) (by omega)
  have h0 : checkAS p = 0 := by unfold docE at hd; split at hd <;> omega
  have hd' : docE r = 0 := by unfold docE at hd; rw [if_pos h0] at hd; exact hd
  have e1 := c_printer_axiom p hf (good h0)
  have hal := ax_len hf (good h0)
  have m1 : t.length + (axS p).length ≤ maxSl := by unfold maxSl; omega
  have m2 : t.length + (axS p).length + 2 ≤ maxSl := by unfold maxSl; omega
  have m3 : t.length + ((axS p).length + 2) ≤ maxSl := by unfold maxSl; omega
  by_cases hb : t.length + ((axS p).length + 2) ≤ 65536
  ·have hb' : ¬ (65536 : Int) < (t.length : Int) + (((axS p).length : Int) + 2) := by omega
   obtain ⟨j, ih2⟩ := l_printer_Document1 s cx z l hl hx r (i + 1) (t ++ axS p ++ [46, 10]) h2 hd' (by simp; omega)
   refine ⟨j, loop_step fun K hK => ?_⟩
   rw [← hK, show ((i + 1 : Nat) : Int) = (i : Int) + 1 from rfl] at ih2
   clear hK h4 hx
   simp at ih2
   simp [ir_printer_Document_L1, h3, h5, hwi, e1, m1, m2, m3, hb', docB_cons, ih2]
  ·have hb' : (65536 : Int) < (t.length : Int) + (((axS p).length : Int) + 2) := by omega
   have hc : 65536 < (t ++ docB (p :: r)).length := by simp [docB_cons]; omega
   refine ⟨i, loop_step fun K hK => ?_⟩
   clear hK h4 hx
   rw [if_pos hc]
   simp [ir_printer_Document_L1, h3, h5, hwi, e1, m1, m2, m3, hb']
theorem c_printer_Document (z : Bool) (l : List Ax) (hl : l.length ≤ 20) (hx : ∀ x ∈ l, x.Few) (s : St) (cx : Ctx) : acallW P0 (.fn (.func F_printer_Document) [] []) [slf z (l.map encA)] s cx =
  .ret (if docE l = 0 then (if 65536 < (docB l).length then .tu [.sl [], .i .i64 2] else .tu [.sl (bytesAV (docB l)), .i .i64 0]) else .tu [.sl [], .i .i64 (docE l)]) s := by
 obtain ⟨j, h⟩ := l_printer_Document0 s ⟨s.length, s.length⟩ z l hl hx l 0 rfl
 refine go_printer_Document (by simp) ?_
 simp at h
 by_cases h0 : docE l = 0
 ·obtain ⟨j', h'⟩ := l_printer_Document1 s ⟨s.length, s.length⟩ z l hl hx l 0 [] rfl h0 (by simp)
  simp at h'
  by_cases hb : 65536 < (docB l).length <;> simp [callFnW, ir_printer_Document, h, h0, h', hb]
 ·simp [callFnW, ir_printer_Document, h, h0]
end Go.Ai.Z
