/-
 Tokens of a text.
-/
import Derived.Test.YtpnlnnfcaeednaaGreatDoorAiKTKUKV
set_option maxRecDepth 100000
set_option linter.unusedSimpArgs false
set_option linter.unusedVariables false
set_option linter.unusedSectionVars false
namespace Go.Ai.Z
def mY (b:UInt8):Bool:=decide (nR b=1)
abbrev Tok:=Int×List UInt8×Nat
def dN (t:Tok):AV:=.ag [.i .i64 t.1,.s t.2.1,.i .i64 t.2.2]
def stT (s:St) (a n:Int):St:=s++[.cells [.ns],.cells wO,.cells [.i .i64 a],.cells [.i .i64 n],.cells [.i .i64 (-1)]]
@[simp] theorem akL (s:St) (a n:Int):(stT s a n)[s.length]?=some (.cells [.ns]):=by simp [stT]
@[simp] theorem akK (s:St) (a n:Int):(stT s a n)[s.length+1]?=some (.cells wO):=by simp [stT]
@[simp] theorem akJ (s:St) (a n:Int):(stT s a n)[s.length+2]?=some (.cells [.i .i64 a]):=by simp [stT]
@[simp] theorem akI (s:St) (a n:Int):(stT s a n)[s.length+3]?=some (.cells [.i .i64 n]):=by simp [stT]
@[simp] theorem ajX (s:St) (a n x:Int):(stT s a n).set (s.length+2) (.cells [.i .i64 x])=stT s x n:=by simp [stT]
@[simp] theorem ajW (s:St) (a n x:Int):(stT s a n).set (s.length+3) (.cells [.i .i64 x])=stT s a x:=by simp [stT]
@[simp] theorem ajY (s:St) (a n:Int):(stT s a n).set (s.length) (.cells [.ns])=stT s a n:=by simp [stT]
@[simp] theorem ail (s:St) (a n:Int):(stT s a n).take s.length=s:=by simp [stT]
def xG (s:St) (src:List UInt8) (ts:List Tok):Env:=[(0,.v (.sl (aA src))),(2,.own false jU 3 (ts.map dN)),(3,.v (.pt s.length 0)),(5,.v (.pt (s.length+1) 0)),
 (6,.v (.pt (s.length+2) 0)),(8,.v (.pt (s.length+3) 0)),(10,.v (.fn (.func oP) [] [.pt (s.length+2) 0,.pt (s.length+4) 0,.pt s.length 0,.pt (s.length+3) 0]))]
theorem KE {α:Type} {l r:List α} {i k:Nat} (h:l.drop i=r):l.drop (i+k)=r.drop k:=by rw [←List.drop_drop,h]
def Dw:aS:=gW.snd
theorem PV:gW=.seq .skip Dw:=rfl
theorem TG (ts:List Tok):(ts.map dN).all (fun e=>e.cells.length == 3)=true:=by simp [dN]
theorem aaG (n:Nat) (ts:List Tok):dA n (ts.map dN)=true:=by
 induction ts with
 | nil=>simp
 | cons a r ih=>simp [dN,ih]
theorem O8 (c:UInt8) (r:List UInt8):(dJ (c::r)).2≤(c::r).length:=by
 have h1:=DK (c::r)
 rw [pX]
 split
 ·split
  ·rename_i d e q hx
   have h2:=DK (e::q)
   have h3:(c::r).length - dV (c::r)=q.length+2:=by simpa using congrArg List.length hx
   simp only [List.length_cons] at *
   split<;>simp only []<;>omega
  ·exact h1
 ·split
  ·split
   ·simp
   ·rename_i d q
    have h2:=DK (d::q)
    unfold ou
    simp only [List.length_cons] at *
    repeat' split
    all_goals simp only [];omega
  ·split
   ·unfold ou;split<;>exact h1
   ·split<;>simp
theorem yX (c:UInt8) (r:List UInt8):0<(dJ (c::r)).2:=by
 rw [pX]
 split
 ·rename_i h3
  have h1:0<dV (c::r):=Qh (.inl h3)
  split
  ·split<;>simp only []<;>omega
  ·exact h1
 ·split
  ·split
   ·simp
   ·unfold ou
    repeat' split
    all_goals simp only [];omega
  ·split
   ·rename_i h4
    have h1:0<dV (c::r):=Qh (.inr h4)
    unfold ou;split<;>exact h1
   ·split<;>simp
def _root_.Go.Ai.aS.sca:aS→aS
 | .scope _ _ a _=>a
 | c=>c
theorem aaH:iR.code=.seq iR.code.fst (.scope 0 [0,2,3,5,6,8,10] (.seq iR.code.snd.sca.fst (.seq iR.code.snd.sca.snd.fst (.seq iR.code.snd.sca.snd.snd.fst
  (.seq iR.code.snd.sca.snd.snd.snd.fst (.seq iR.code.snd.sca.snd.snd.snd.snd.fst (.seq (.label 0) Dw)))))) gW):=rfl
end Go.Ai.Z
