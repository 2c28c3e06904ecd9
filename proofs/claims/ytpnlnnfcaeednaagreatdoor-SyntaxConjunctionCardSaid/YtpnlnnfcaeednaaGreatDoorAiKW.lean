/-
 Tokens of a text.
-/
import Derived.Test.YtpnlnnfcaeednaaGreatDoorAiKTKUKV
set_option maxRecDepth 100000
set_option linter.unusedSimpArgs false
set_option linter.unusedVariables false
set_option linter.unusedSectionVars false
namespace Go.Ai.Z
def blkB (b : UInt8) : Bool := decide (clsB b = 1)
abbrev Tok := Int × List UInt8 × Nat
def encTok (t : Tok) : AV := .ag [.i .i64 t.1, .s t.2.1, .i .i64 t.2.2]
def stT (s : St) (a n : Int) : St := s ++ [.cells [.ns], .cells tabL, .cells [.i .i64 a], .cells [.i .i64 n], .cells [.i .i64 (-1)]]
@[simp] theorem stT_0 (s : St) (a n : Int) : (stT s a n)[s.length]? = some (.cells [.ns]) := by simp [stT]
@[simp] theorem stT_1 (s : St) (a n : Int) : (stT s a n)[s.length + 1]? = some (.cells tabL) := by simp [stT]
@[simp] theorem stT_2 (s : St) (a n : Int) : (stT s a n)[s.length + 2]? = some (.cells [.i .i64 a]) := by simp [stT]
@[simp] theorem stT_3 (s : St) (a n : Int) : (stT s a n)[s.length + 3]? = some (.cells [.i .i64 n]) := by simp [stT]
@[simp] theorem stT_s2 (s : St) (a n x : Int) : (stT s a n).set (s.length + 2) (.cells [.i .i64 x]) = stT s x n := by simp [stT]
@[simp] theorem stT_s3 (s : St) (a n x : Int) : (stT s a n).set (s.length + 3) (.cells [.i .i64 x]) = stT s a x := by simp [stT]
@[simp] theorem stT_s0 (s : St) (a n : Int) : (stT s a n).set (s.length) (.cells [.ns]) = stT s a n := by simp [stT]
@[simp] theorem stT_take (s : St) (a n : Int) : (stT s a n).take s.length = s := by simp [stT]
def envT (s : St) (src : List UInt8) (ts : List Tok) : Env := [(0, .v (.sl (bytesAV src))), (2, .own false T_api_Token_1 3 (ts.map encTok)), (3, .v (.pt s.length 0)), (5, .v (.pt (s.length + 1) 0)),
 (6, .v (.pt (s.length + 2) 0)), (8, .v (.pt (s.length + 3) 0)), (10, .v (.fn (.func F_lexis_Tokens_1) [] [.pt (s.length + 2) 0, .pt (s.length + 4) 0, .pt s.length 0, .pt (s.length + 3) 0]))]
theorem drop_add {α : Type} {l r : List α} {i k : Nat} (h : l.drop i = r) : l.drop (i + k) = r.drop k := by rw [← List.drop_drop, h]
def tokBody : ACode := ir_lexis_Tokens_L0.snd
theorem tok_L0 : ir_lexis_Tokens_L0 = .seq .skip tokBody := rfl
theorem tok_cells (ts : List Tok) : (ts.map encTok).all (fun e => e.cells.length == 3) = true := by simp [encTok]
theorem tok_under (n : Nat) (ts : List Tok) : underL n (ts.map encTok) = true := by
 induction ts with
 | nil => simp
 | cons a r ih => simp [encTok, ih]
theorem scan_le (c : UInt8) (r : List UInt8) : (scanS (c :: r)).2 ≤ (c :: r).length := by
 have h1 := runS_le (c :: r)
 rw [scan_cons]
 split
 ·split
  ·rename_i d e q hx
   have h2 := runS_le (e :: q)
   have h3 : (c :: r).length - runS (c :: r) = q.length + 2 := by simpa using congrArg List.length hx
   simp only [List.length_cons] at *
   split <;> simp only [] <;> omega
  ·exact h1
 ·split
  ·split
   ·simp
   ·rename_i d q
    have h2 := runS_le (d :: q)
    unfold intTok
    simp only [List.length_cons] at *
    repeat' split
    all_goals simp only []; omega
  ·split
   ·unfold intTok; split <;> exact h1
   ·split <;> simp
theorem scan_pos (c : UInt8) (r : List UInt8) : 0 < (scanS (c :: r)).2 := by
 rw [scan_cons]
 split
 ·rename_i h3
  have h1 : 0 < runS (c :: r) := runS_pos (.inl h3)
  split
  ·split <;> simp only [] <;> omega
  ·exact h1
 ·split
  ·split
   ·simp
   ·unfold intTok
    repeat' split
    all_goals simp only []; omega
  ·split
   ·rename_i h4
    have h1 : 0 < runS (c :: r) := runS_pos (.inr h4)
    unfold intTok; split <;> exact h1
   ·split <;> simp
def _root_.Go.Ai.ACode.sca : ACode → ACode
 | .scope _ _ a _ => a
 | c => c
theorem tok_split : ir_lexis_Tokens.code = .seq ir_lexis_Tokens.code.fst (.scope 0 [0, 2, 3, 5, 6, 8, 10] (.seq ir_lexis_Tokens.code.snd.sca.fst (.seq ir_lexis_Tokens.code.snd.sca.snd.fst (.seq ir_lexis_Tokens.code.snd.sca.snd.snd.fst
  (.seq ir_lexis_Tokens.code.snd.sca.snd.snd.snd.fst (.seq ir_lexis_Tokens.code.snd.sca.snd.snd.snd.snd.fst (.seq (.label 0) tokBody)))))) ir_lexis_Tokens_L0) := rfl
end Go.Ai.Z
