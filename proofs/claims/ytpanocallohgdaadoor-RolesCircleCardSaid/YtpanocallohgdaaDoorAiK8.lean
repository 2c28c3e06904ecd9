/-
 Axioms: their data, and the first checks.
-/
import Derived.Test.YtpanocallohgdaaDoorAiK5K6K7
set_option maxRecDepth 100000
set_option linter.unusedSimpArgs false
set_option linter.unusedVariables false
namespace Go.Ai.Z
structure Ax where
 kind : Int
 op : Bool
 left : C
 right : C
 z : Bool
 roles : List (List UInt8)
 role : List UInt8
 a : List UInt8
 b : List UInt8
def cellsA (x : Ax) : List AV := [.i .i64 x.kind, .b x.op, .i .i64 x.left.kind, .s x.left.name, .i .i64 x.left.lo, .i .i64 x.left.hi, slf x.left.z (x.left.parts.map encC),
 .i .i64 x.right.kind, .s x.right.name, .i .i64 x.right.lo, .i .i64 x.right.hi, slf x.right.z (x.right.parts.map encC), slf x.z (x.roles.map .s), .s x.role, .s x.a, .s x.b]
def encA (x : Ax) : AV := .ag (cellsA x)
@[simp] theorem plain_encA (x : Ax) : (encA x).plain = encA x := by simp [encA, cellsA]
@[simp] theorem cells_encA (x : Ax) : (encA x).cells = [.i .i64 x.kind, .b x.op, .i .i64 x.left.kind, .s x.left.name, .i .i64 x.left.lo, .i .i64 x.left.hi, slf x.left.z (x.left.parts.map encC),
 .i .i64 x.right.kind, .s x.right.name, .i .i64 x.right.lo, .i .i64 x.right.hi, slf x.right.z (x.right.parts.map encC), slf x.z (x.roles.map .s), .s x.role, .s x.a, .s x.b] := rfl
@[simp] theorem fold_encA (x : Ax) : AV.ag [.i .i64 x.kind, .b x.op, .i .i64 x.left.kind, .s x.left.name, .i .i64 x.left.lo, .i .i64 x.left.hi, slf x.left.z (x.left.parts.map encC),
 .i .i64 x.right.kind, .s x.right.name, .i .i64 x.right.lo, .i .i64 x.right.hi, slf x.right.z (x.right.parts.map encC), slf x.z (x.roles.map .s), .s x.role, .s x.a, .s x.b] = encA x := rfl
def emptyS (c : C) : Bool := decide (c.kind = 0) && decide (c.name = []) && decide (c.lo = 0) && decide (c.hi = 0) && decide ((c.parts.length : Int) = 0)
@[simp] theorem c_terms_isEmpty (c : C) (s : St) (cx : Ctx) : acallW P0 (.fn (.func F_terms_isEmpty) [] []) [encC c] s cx = .ret (.b (emptyS c)) s := by
 refine go_terms_isEmpty (by simp) ?_
 simp [callFnW, ir_terms_isEmpty, emptyS]
 repeat' (first | (split <;> (try simp only [opT_go, opF_go, cdT_go, qT_go, qN_go]) <;> (try simp [*])) | (simp only [opT_go, opF_go, cdT_go, qT_go, qN_go] <;> (try simp [*])) | omega)
theorem c_terms_CheckName (l : List UInt8) (hl : l.length ≤ 1152921504606846976) (s : St) (cx : Ctx) : acallW P0 (.fn (.func F_terms_CheckName) [] []) [.s l] s cx = .ret (.i .i64 (if (plainS l || resS l) = true then 0 else 20)) s := by
 refine go_terms_CheckName (by simp) ?_
 have e1 := c_terms_isReserved l hl
 rcases Bool.eq_false_or_eq_true (plainS l) with h1 | h1 <;> rcases Bool.eq_false_or_eq_true (resS l) with h2 | h2 <;> simp [callFnW, ir_terms_CheckName, e1, h1, h2]
structure Use where
 l : Bool
 r : Bool
 role : Bool
 a : Bool
 b : Bool
 lo : Int
 hi : Int
def useS (k : Int) : Use :=
 if k = 1 then ⟨true, true, false, false, false, 0, 0⟩ else if k = 2 then ⟨true, true, false, false, false, 0, 0⟩ else if k = 3 then ⟨true, true, false, false, false, 0, 0⟩
 else if k = 4 then ⟨false, true, true, false, false, 0, 0⟩ else if k = 5 then ⟨false, false, true, false, false, 1, 1⟩ else if k = 6 then ⟨false, false, true, false, false, 2, 4⟩
 else if k = 7 then ⟨false, false, true, false, false, 0, 0⟩ else if k = 8 then ⟨false, true, false, true, false, 0, 0⟩ else if k = 9 then ⟨false, false, true, true, true, 0, 0⟩ else ⟨false, false, false, false, false, 0, 0⟩
def encU (u : Use) : AV := .ag [.b u.l, .b u.r, .b u.role, .b u.a, .b u.b, .i .i64 u.lo, .i .i64 u.hi]
@[simp] theorem plain_encU (u : Use) : (encU u).plain = encU u := by simp [encU]
@[simp] theorem cells_encU (u : Use) : (encU u).cells = [.b u.l, .b u.r, .b u.role, .b u.a, .b u.b, .i .i64 u.lo, .i .i64 u.hi] := rfl
@[simp] theorem fold_encU (u : Use) : AV.ag [.b u.l, .b u.r, .b u.role, .b u.a, .b u.b, .i .i64 u.lo, .i .i64 u.hi] = encU u := rfl
def usesCs : List AV := (P0.glob G_terms_uses).getD []
theorem glob_uses : P0.glob G_terms_uses = some usesCs := rfl
theorem uses_len : usesCs.length = 70 := rfl
theorem uses_at {k : Int} (h1 : 1 ≤ k) (h9 : k ≤ 9) : (usesCs.drop (k.toNat * 7)).take 7 = [.b (useS k).l, .b (useS k).r, .b (useS k).role, .b (useS k).a, .b (useS k).b, .i .i64 (useS k).lo, .i .i64 (useS k).hi] := by
 have : k = 1 ∨ k = 2 ∨ k = 3 ∨ k = 4 ∨ k = 5 ∨ k = 6 ∨ k = 7 ∨ k = 8 ∨ k = 9 := by omega
 rcases this with rfl | rfl | rfl | rfl | rfl | rfl | rfl | rfl | rfl <;> rfl
def kindOK (x : Ax) : Bool := decide (1 ≤ x.kind) && decide (x.kind ≤ 9)
def shapedS (x : Ax) : Bool := kindOK x && ((useS x.kind).l || emptyS x.left) && ((useS x.kind).r || emptyS x.right) && ((useS x.kind).role || decide (x.role = [])) && ((useS x.kind).a || decide (x.a = [])) && ((useS x.kind).b || decide (x.b = [])) &&
 decide ((useS x.kind).lo ≤ x.roles.length) && decide ((x.roles.length : Int) ≤ (useS x.kind).hi)
set_option maxHeartbeats 2000000 in
@[simp] theorem c_terms_isShaped (x : Ax) (s : St) (cx : Ctx) : acallW P0 (.fn (.func F_terms_isShaped) [] []) [encA x] s cx = .ret (.b (shapedS x)) s := by
 refine go_terms_isShaped (by simp) ?_
 by_cases h1 : x.kind < 1
 ·simp [callFnW, ir_terms_isShaped, h1, shapedS, kindOK, show ¬ (1 ≤ x.kind) by omega]
 by_cases h9 : 9 < x.kind
 ·simp [callFnW, ir_terms_isShaped, h1, h9, shapedS, kindOK, show ¬ (x.kind ≤ 9) by omega]
 have b1 : 0 ≤ x.kind := by omega
 have b2 : x.kind.toNat < 10 := by omega
 have b3 : 7 ≤ 70 - x.kind.toNat * 7 := by omega
 have hu := uses_at (k := x.kind) (by omega) (by omega)
 have hk : kindOK x = true := by simp [kindOK]; omega
 unfold shapedS
 rw [hk]
 have hk9 : x.kind = 1 ∨ x.kind = 2 ∨ x.kind = 3 ∨ x.kind = 4 ∨ x.kind = 5 ∨ x.kind = 6 ∨ x.kind = 7 ∨ x.kind = 8 ∨ x.kind = 9 := by omega
 clear hk
 rcases hk9 with k | k | k | k | k | k | k | k | k
 all_goals
  have ku := congrArg useS k
  rw [ku] at hu ⊢
  clear ku k
  simp [useS] at hu ⊢
  simp [callFnW, ir_terms_isShaped, h1, h9, b1, b2, b3, glob_uses, uses_len, hu]
  clear hu b1 b2 b3 h1 h9
  repeat' (first | (split <;> (try simp only [opT_go, opF_go, cdT_go, qT_go, qN_go]) <;> (try simp [*])) | (simp only [opT_go, opF_go, cdT_go, qT_go, qN_go] <;> (try simp [*])) | omega)
end Go.Ai.Z
