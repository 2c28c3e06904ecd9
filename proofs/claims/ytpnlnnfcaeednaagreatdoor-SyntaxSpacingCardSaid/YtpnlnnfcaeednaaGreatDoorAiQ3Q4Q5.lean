/-
 The parser: every printed concept is parsed.
-/
import Derived.Test.YtpnlnnfcaeednaaGreatDoorAiLex1Lex2Q1Q2
import Derived.Test.YtpnlnnfcaeednaaGreatDoorAiK5K6K7InjInj2Inj3Inj4KI
set_option maxRecDepth 100000
set_option linter.unusedSimpArgs false
set_option linter.unusedVariables false
set_option linter.unusedSectionVars false
namespace Go.Ai.Z
open Go.Ai.Inj
open Go.Lib (itoa decDigits nDigits decFrom decNat digitVal decDigits_length nDigits_small nDigits_big)
theorem F7 (k:Int) (n:List UInt8) (lo hi:Int):bD (.mk k n lo hi true [])=.ag [.i .i64 k,.s n,.i .i64 lo,.i .i64 hi,.ns]:=by
 rw [vF];simp [C.kind,C.name,C.lo,C.hi,C.z,C.parts]
inductive ad6:C→Prop where
 | mk (c:C) (h:c.kind=4→lm c.name=true) (hp:∀p∈c.parts,ad6 p):ad6 c
end Go.Ai.Z
namespace Go.Ai.Z
def CV (l:Nat):AV:=.im [(.s [100,111,109,97,105,110],.fn (.func iP) [.pt l 0] []),(.s [114,111,108,101],.fn (.func jo) [.pt l 0] []),
 (.s [99,104,97,105,110],.fn (.func jb) [.pt l 0] []),(.s [114,101,102,108,101,120,105,118,101],.fn (.func gm) [.pt l 0] []),
 (.s [116,121,112,101],.fn (.func iO) [.pt l 0] []),(.s [108,105,110,107],.fn (.func jq) [.pt l 0] [])]
theorem Ol (T:List Tok) (s:St) (cx:Ctx) (hl:cx.lim≤s.length) (hb:cx.base≤s.length):
  ah P0 (.fn (.func kG) [] []) [.sl (T.map dN)] s cx=.ret (.pt s.length 0) (s++[psO T 0 (CV s.length)]):=by
 refine H8 (by simp) ?_
 simp [af,qR,dX,splice,hl,hb,find,wQ,y5,psO,CV]
theorem ai2 (fp:AV) (f:Nat) (as cs:List AV) (hf:fp=.fn (.func f) as cs) (s s':St) (cx:Ctx) (r:AV) (h:ah P0 fp [] s cx=.ret r s'):
  ah P0 (.fn (.func yc) [] []) [fp] s cx=.ret (.tu [.ag [.i .i64 0,.i .i64 0],.b false]) s':=by
 subst hf
 refine Ad (A:=P0) (k:=.tryK (.tu [.ag [.i .i64 0,.i .i64 0],.b false]) ng) rfl rfl (by simp) ?_
 show l7 (ah P0) (ah P0.quiet) (.tryK (.tu [.ag [.i .i64 0,.i .i64 0],.b false]) ng) [.fn (.func f) as cs] s cx=_
 unfold l7
 dsimp only
 rw [h]
end Go.Ai.Z
namespace Go.Ai.Z
@[simp] theorem aiF (S:St) (n:Nat) (d:C) (a e:Int):frz S n (.tu [bD d,.i .i64 a,.i .i64 e])=some (.tu [bD d,.i .i64 a,.i .i64 e]):=by
 have hu:(AV.tu [bD d,.i .i64 a,.i .i64 e]).under n=true:=by simp
 rw [frz,if_pos hu]
end Go.Ai.Z
