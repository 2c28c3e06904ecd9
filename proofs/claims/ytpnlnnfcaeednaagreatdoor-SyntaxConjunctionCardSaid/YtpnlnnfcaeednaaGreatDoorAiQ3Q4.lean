/-
 The parser: every printed concept is parsed.
-/
import Derived.Test.YtpnlnnfcaeednaaGreatDoorAiQ1Q2
set_option maxRecDepth 100000
set_option linter.unusedSimpArgs false
set_option linter.unusedVariables false
set_option linter.unusedSectionVars false
namespace Go.Ai.Z
open Go.Ai.Inj
open Go.Lib (itoa decDigits nDigits decFrom decNat digitVal decDigits_length nDigits_small nDigits_big)
theorem enc_leaf (k : Int) (n : List UInt8) (lo hi : Int) : encC (.mk k n lo hi true []) = .ag [.i .i64 k, .s n, .i .i64 lo, .i .i64 hi, .ns] := by
 rw [encC_eq]; simp [C.kind, C.name, C.lo, C.hi, C.z, C.parts]
inductive PlainC : C → Prop where
 | mk (c : C) (h : c.kind = 4 → plainS c.name = true) (hp : ∀ p ∈ c.parts, PlainC p) : PlainC c
end Go.Ai.Z
namespace Go.Ai.Z
def mapV (l : Nat) : AV := .im [(.s [100, 111, 109, 97, 105, 110], .fn (.func F_syntax_parser_domain) [.pt l 0] []), (.s [114, 111, 108, 101], .fn (.func F_syntax_parser_role) [.pt l 0] []),
 (.s [99, 104, 97, 105, 110], .fn (.func F_syntax_parser_chain) [.pt l 0] []), (.s [114, 101, 102, 108, 101, 120, 105, 118, 101], .fn (.func F_syntax_parser_reflexive) [.pt l 0] []),
 (.s [116, 121, 112, 101], .fn (.func F_syntax_parser_typing) [.pt l 0] []), (.s [108, 105, 110, 107], .fn (.func F_syntax_parser_link) [.pt l 0] [])]
theorem c_newParser (T : List Tok) (s : St) (cx : Ctx) (hl : cx.lim ≤ s.length) (hb : cx.base ≤ s.length) :
  acallW P0 (.fn (.func F_syntax_newParser) [] []) [.sl (T.map encTok)] s cx = .ret (.pt s.length 0) (s ++ [psO T 0 (mapV s.length)]) := by
 refine go_syntax_newParser (by simp) ?_
 simp [callFnW, ir_syntax_newParser, fillC, splice, hl, hb, find, keyK, keyEq, psO, mapV]
theorem c_try (fp : AV) (f : Nat) (as cs : List AV) (hf : fp = .fn (.func f) as cs) (s s' : St) (cx : Ctx) (r : AV) (h : acallW P0 fp [] s cx = .ret r s') :
  acallW P0 (.fn (.func F_syntax_try) [] []) [fp] s cx = .ret (.tu [.ag [.i .i64 0, .i .i64 0], .b false]) s' := by
 subst hf
 refine acallW_hi (A := P0) (k := .tryK (.tu [.ag [.i .i64 0, .i .i64 0], .b false]) T_syntax_fault) rfl rfl (by simp) ?_
 show callHi (acallW P0) (acallW P0.quiet) (.tryK (.tu [.ag [.i .i64 0, .i .i64 0], .b false]) T_syntax_fault) [.fn (.func f) as cs] s cx = _
 unfold callHi
 dsimp only
 rw [h]
end Go.Ai.Z
