/-
 Words, integers and signs are read as they are printed.
-/
import Derived.Test.YtpnlnnfcaeednaaGreatDoorAiKW
import Derived.Test.YtpnlnnfcaeednaaGreatDoorAiInjInj2Inj3Inj4KI
set_option maxRecDepth 100000
set_option linter.unusedSimpArgs false
set_option linter.unusedVariables false
set_option linter.unusedSectionVars false
namespace Go.Ai.Z
open Go.Lib (itoa decDigits)
open Go.Ai.Inj
def Tail (u : List UInt8) : Prop := ∀ b r, u = b :: r → b = 32 ∨ b = 41 ∨ b = 125 ∨ b = 46
theorem Tail.stops {u : List UInt8} (h : Tail u) : Stops wrdB u := by
 intro b r e
 rcases h b r e with rfl | rfl | rfl | rfl <;> decide
structure IsTok (k : Int) (t : List UInt8) : Prop where
 k0 : k ≠ 0
 ne : t ≠ []
 b0 : ∀ c r, t = c :: r → clsB c ≠ 1 ∧ clsB c ≠ 2
 sc : ∀ u, Tail u ∨ t = [40] ∨ t = [123] → scanS (t ++ u) = (k, t.length)
theorem sign_tok {c : UInt8} (h : clsB c = 6) : IsTok 3 [c] := by
 refine ⟨by decide, by simp, fun c' r' e => ?_, fun u _ => ?_⟩
 ·obtain ⟨rfl, -⟩ := List.cons.inj e; rw [h]; decide
 ·rw [List.cons_append, scan_cons, if_neg (by rw [h]; decide), if_neg (by rw [h]; decide), if_neg (by rw [h]; decide), if_pos h]; rfl
end Go.Ai.Z
namespace Go.Ai.Z
open Go.Lib (itoa decDigits)
open Go.Ai.Inj
abbrev Tk := Int × List UInt8
def sep (p : Option (List UInt8)) (t : List UInt8) : List UInt8 :=
 match p with
 | none => []
 | some p => if t = [41] ∨ t = [125] ∨ p = [40] ∨ p = [123] then [] else [32]
def joinT : Option (List UInt8) → List Tk → List UInt8
 | _, [] => []
 | p, t :: r => sep p t.2 ++ (t.2 ++ joinT (some t.2) r)
def stepD (d : Int) (t : Tk) : Int :=
 let d := if t.1 = 3 ∧ (t.2 = [40] ∨ t.2 = [123]) then d + 1 else d
 if t.1 = 3 ∧ (t.2 = [41] ∨ t.2 = [125]) then d - 1 else d
def deepT : List Tk → Int → Option Int
 | [], d => some d
 | t :: r, d => if stepD d t < 0 then none else deepT r (stepD d t)
def Flat (t : List UInt8) : Prop := t ≠ [41] ∧ t ≠ [125] ∧ t ≠ [40] ∧ t ≠ [123]
instance (t : List UInt8) : Decidable (Flat t) := by unfold Flat; infer_instance
structure Piece (l : List Tk) (x : List UInt8) : Prop where
 tok : ∀ t ∈ l, IsTok t.1 t.2
 bal : ∀ d r, 0 ≤ d → deepT (l ++ r) d = deepT r d
 ne : l ≠ []
 join : ∃ f e, f ≠ [41] ∧ f ≠ [125] ∧ e ≠ [40] ∧ e ≠ [123] ∧ ∀ p r, joinT p (l ++ r) = sep p f ++ (x ++ joinT (some e) r)
theorem Piece.one {k : Int} {t : List UInt8} (h : IsTok k t) (hf : Flat t) : Piece [(k, t)] t := by
 refine ⟨fun y hy => by simp at hy; rw [hy]; exact h, fun d r hd => ?_, by simp, t, t, hf.1, hf.2.1, hf.2.2.1, hf.2.2.2, fun p r => rfl⟩
 have : stepD d (k, t) = d := by simp [stepD, hf.1, hf.2.1, hf.2.2.1, hf.2.2.2]
 simp only [List.cons_append, List.nil_append, deepT, this]
 rw [if_neg (by omega)]
theorem Piece.app {l m : List Tk} {x y : List UInt8} (h : Piece l x) (h' : Piece m y) : Piece (l ++ m) (x ++ 32 :: y) := by
 obtain ⟨f, e, f1, f2, e1, e2, hj⟩ := h.join
 obtain ⟨f', e', f1', f2', e1', e2', hj'⟩ := h'.join
 refine ⟨fun t ht => ?_, fun d r hd => by rw [List.append_assoc, h.bal d _ hd, h'.bal d _ hd], by simp [h.ne], f, e', f1, f2, e1', e2', fun p r => ?_⟩
 ·rcases List.mem_append.1 ht with ht | ht
  ·exact h.tok t ht
  ·exact h'.tok t ht
 ·rw [List.append_assoc, hj, hj']
  have : sep (some e) f' = [32] := by simp [sep, f1', f2', e1, e2]
  rw [this]; simp
theorem Piece.brace {n : List UInt8} (h : IsTok 1 n) (hf : Flat n) : Piece [(3, [123]), (1, n), (3, [125])] (123 :: (n ++ [125])) := by
 refine ⟨fun t ht => ?_, fun d r hd => ?_, by simp, [123], [125], by decide, by decide, by decide, by decide, fun p r => ?_⟩
 ·simp at ht
  rcases ht with rfl | rfl | rfl
  ·exact sign_tok (by decide)
  ·exact h
  ·exact sign_tok (by decide)
 ·have s1 : stepD d (3, [123]) = d + 1 := by simp [stepD]
  have s2 : stepD (d + 1) (1, n) = d + 1 := by simp [stepD]
  have s3 : stepD (d + 1) (3, [125]) = d := by simp [stepD]
  simp only [List.cons_append, List.nil_append, deepT, s1, s2, s3]
  rw [if_neg (by omega), if_neg (by omega), if_neg (by omega)]
 ·have q1 : sep (some [123]) n = [] := by simp [sep]
  have q2 : sep (some n) [125] = [] := by simp [sep]
  simp [joinT, q1, q2]
def andT : Tk := (1, [97, 110, 100])
def joinA : List (List Tk) → List Tk
 | [] => []
 | [a] => a
 | a :: b :: r => a ++ (andT :: joinA (b :: r))
mutual
def ctk : C → List Tk
 | .mk k n lo hi _ ps =>
  if k = 1 then [(1, [101, 118, 101, 114, 121, 116, 104, 105, 110, 103])]
  else if k = 2 then [(1, [110, 111, 116, 104, 105, 110, 103])]
  else if k = 3 then [(1, n)]
  else if k = 4 then [(3, [123]), (1, n), (3, [125])]
  else if k = 7 then [(1, n), (1, [105, 110]), (2, itoa lo), (1, [116, 111]), (2, itoa hi)]
  else if k = 6 then (1, [115, 111, 109, 101]) :: (1, n) :: (otkL ps).headD []
  else joinA (otkL ps)
def otkL : List C → List (List Tk)
 | [] => []
 | .mk k n lo hi z ps :: r => (if k = 5 then (3, [40]) :: (ctk (.mk k n lo hi z ps) ++ [(3, [41])]) else ctk (.mk k n lo hi z ps)) :: otkL r
end
end Go.Ai.Z
