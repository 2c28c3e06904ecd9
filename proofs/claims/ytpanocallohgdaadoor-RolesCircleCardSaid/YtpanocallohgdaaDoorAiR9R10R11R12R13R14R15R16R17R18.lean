/-
 Several maps in the heap, and their rows behind them: each row has a tag (its map) and a key.
-/
import Derived.Test.YtpanocallohgdaaDoorAiR2R3
import Derived.Test.YtpanocallohgdaaDoorAiWrdGrm
set_option maxRecDepth 100000
set_option linter.unusedSimpArgs false
set_option linter.unusedVariables false
namespace Go.Ai.Z
structure RowT where
 tag : Nat
 key : List UInt8
 vals : List AV
abbrev RT := List RowT
def esT (j : Nat) : Nat → RT → List (AV × AV)
 | _, [] => []
 | b, p :: G => if p.tag = j then (.s p.key, .st b p.vals) :: esT j (b + 1) G else esT j (b + 1) G
end Go.Ai.Z
namespace Go.Ai.Z
def encR (p : Rul) : AV := .ag [.s p.first, .s p.second, .s p.role]
@[simp] theorem plain_encR (p : Rul) : (encR p).plain = encR p := by simp [encR]
@[simp] theorem cells_encR (p : Rul) : (encR p).cells = [.s p.first, .s p.second, .s p.role] := rfl
def seenM (S : List Rul) : List (AV × AV) := S.map fun p => (encR p, .b true)
def rowO (p : RowT) : HObj := .row (if p.tag = 1 ∨ p.tag = 2 then T_roles_rule_1 else T_string_0) (if p.tag = 1 ∨ p.tag = 2 then 3 else 1) p.vals.length
def rowsO (R : RT) : St := R.map rowO
@[simp] theorem rowsO_len (R : RT) : (rowsO R).length = R.length := by simp [rowsO]
def gHeap (s : St) (R : RT) (S : List Rul) : St := s ++ .map (esT 0 (s.length + 4) R) :: .map (esT 1 (s.length + 4) R) :: .map (esT 2 (s.length + 4) R) :: .map (seenM S) :: rowsO R
@[simp] theorem st4_0 {s r : St} {a b c d : HObj} : (s ++ a :: b :: c :: d :: r)[s.length]? = some a := by simp
@[simp] theorem st4_1 {s r : St} {a b c d : HObj} : (s ++ a :: b :: c :: d :: r)[s.length + 1]? = some b := by simp
@[simp] theorem st4_2 {s r : St} {a b c d : HObj} : (s ++ a :: b :: c :: d :: r)[s.length + 2]? = some c := by
 rw [List.getElem?_append_right (by omega)]; simp
@[simp] theorem st4_3 {s r : St} {a b c d : HObj} : (s ++ a :: b :: c :: d :: r)[s.length + 3]? = some d := by
 rw [List.getElem?_append_right (by omega)]; simp
@[simp] theorem st4_s0 {s r : St} {a b c d x : HObj} : (s ++ a :: b :: c :: d :: r).set s.length x = s ++ x :: b :: c :: d :: r := by simp
@[simp] theorem st4_s1 {s r : St} {a b c d x : HObj} : (s ++ a :: b :: c :: d :: r).set (s.length + 1) x = s ++ a :: x :: c :: d :: r := by
 rw [List.set_append, if_neg (by omega)]; simp
@[simp] theorem st4_s2 {s r : St} {a b c d x : HObj} : (s ++ a :: b :: c :: d :: r).set (s.length + 2) x = s ++ a :: b :: x :: d :: r := by
 rw [List.set_append, if_neg (by omega)]; simp
@[simp] theorem st4_s3 {s r : St} {a b c d x : HObj} : (s ++ a :: b :: c :: d :: r).set (s.length + 3) x = s ++ a :: b :: c :: x :: r := by
 rw [List.set_append, if_neg (by omega)]; simp
end Go.Ai.Z
namespace Go.Ai.Z
def _root_.Go.Ai.ACode.blk : ACode → ACode | .block _ c => c | c => c
def _root_.Go.Ai.ACode.fs : ACode → ACode | .seq a _ => a | c => c
def _root_.Go.Ai.ACode.sn : ACode → ACode | .seq _ a => a | c => c
end Go.Ai.Z
namespace Go.Ai.Z
end Go.Ai.Z
namespace Go.Ai.Z
@[simp] theorem gheap_3 (s : St) (R : RT) (S : List Rul) : (gHeap s R S)[s.length + 3]? = some (.map (seenM S)) := st4_3
end Go.Ai.Z
namespace Go.Ai.Z
structure GrOK (l : List Ax) : Prop where
 few : ∀ x ∈ l, x.Few
 one : One5 l
 two : ∀ x ∈ l, x.kind = 6 → 2 ≤ x.roles.length ∧ x.roles.length ≤ 4
end Go.Ai.Z
namespace Go.Ai.Z
end Go.Ai.Z
namespace Go.Ai.Z
end Go.Ai.Z
namespace Go.Ai.Z
@[simp] theorem st3_1 {s r : St} {a b c : HObj} : (s ++ a :: b :: c :: r)[s.length + 1]? = some b := by simp
@[simp] theorem st3_2 {s r : St} {a b c : HObj} : (s ++ a :: b :: c :: r)[s.length + 2]? = some c := by
 rw [List.getElem?_append_right (by omega)]; simp
theorem st3_r {s r : St} {a b c : HObj} {x : Nat} : (s ++ a :: b :: c :: r)[s.length + 3 + x]? = r[x]? := by
 rw [show s.length + 3 + x = s.length + (x + 3) by omega, List.getElem?_append_right (by omega)]
 simp [show s.length + (x + 3) - s.length = x + 3 by omega]
@[simp] theorem st3_s2 {s r : St} {a b c v : HObj} : (s ++ a :: b :: c :: r).set (s.length + 2) v = s ++ a :: b :: v :: r := by
 rw [List.set_append, if_neg (by omega)]; simp
@[simp] theorem st3_s0 {s r : St} {a b c v : HObj} : (s ++ a :: b :: c :: r).set s.length v = s ++ v :: b :: c :: r := by simp
end Go.Ai.Z
namespace Go.Ai.Z
end Go.Ai.Z
