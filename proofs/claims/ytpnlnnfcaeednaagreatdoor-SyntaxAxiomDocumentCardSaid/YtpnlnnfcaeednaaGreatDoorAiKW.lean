/-
 Tokens of a text.
-/
import Derived.Test.YtpnlnnfcaeednaaGreatDoorAiKTKUKV
set_option maxRecDepth 100000
set_option linter.unusedSimpArgs false
set_option linter.unusedVariables false
set_option linter.unusedSectionVars false
namespace Go.Ai.Z
def pO (b:UInt8):Bool:=decide (o5 b=1)
abbrev Tok:=Int×List UInt8×Nat
def dL (t:Tok):AV:=.ag [.i .i64 t.1,.s t.2.1,.i .i64 t.2.2]
def stT (s:St) (a n:Int):St:=s++[.cells [.ns],.cells Aa,.cells [.i .i64 a],.cells [.i .i64 n],.cells [.i .i64 (-1)]]
@[simp] theorem ajF (s:St) (a n:Int):(stT s a n)[s.length]?=some (.cells [.ns]):=by simp [stT]
@[simp] theorem ajE (s:St) (a n:Int):(stT s a n)[s.length+1]?=some (.cells Aa):=by simp [stT]
@[simp] theorem ajD (s:St) (a n:Int):(stT s a n)[s.length+2]?=some (.cells [.i .i64 a]):=by simp [stT]
@[simp] theorem ajC (s:St) (a n:Int):(stT s a n)[s.length+3]?=some (.cells [.i .i64 n]):=by simp [stT]
@[simp] theorem aiU (s:St) (a n x:Int):(stT s a n).set (s.length+2) (.cells [.i .i64 x])=stT s x n:=by simp [stT]
@[simp] theorem aiT (s:St) (a n x:Int):(stT s a n).set (s.length+3) (.cells [.i .i64 x])=stT s a x:=by simp [stT]
@[simp] theorem aiV (s:St) (a n:Int):(stT s a n).set (s.length) (.cells [.ns])=stT s a n:=by simp [stT]
@[simp] theorem ahi (s:St) (a n:Int):(stT s a n).take s.length=s:=by simp [stT]
def xk (s:St) (src:List UInt8) (ts:List Tok):Env:=[(0,.v (.sl (aA src))),(2,.own false jV 3 (ts.map dL)),(3,.v (.pt s.length 0)),(5,.v (.pt (s.length+1) 0)),
 (6,.v (.pt (s.length+2) 0)),(8,.v (.pt (s.length+3) 0)),(10,.v (.fn (.func oJ) [] [.pt (s.length+2) 0,.pt (s.length+4) 0,.pt s.length 0,.pt (s.length+3) 0]))]
theorem Ku {α:Type} {l r:List α} {i k:Nat} (h:l.drop i=r):l.drop (i+k)=r.drop k:=by rw [←List.drop_drop,h]
def Dj:aS:=gZ.snd
theorem Pg:gZ=.seq .skip Dj:=rfl
theorem SB (ts:List Tok):(ts.map dL).all (fun e=>e.cells.length == 3)=true:=by simp [dL]
theorem ZG (n:Nat) (ts:List Tok):dK n (ts.map dL)=true:=by
 induction ts with
 | nil=>simp
 | cons a r ih=>simp [dL,ih]
theorem Ux (c:UInt8) (r:List UInt8):(eG (c::r)).2≤(c::r).length:=by
 have h1:=Dw (c::r)
 rw [qI]
 split
 ·split
  ·rename_i d e q hx
   have h2:=Dw (e::q)
   have h3:(c::r).length - iI (c::r)=q.length+2:=by simpa using congrArg List.length hx
   simp only [List.length_cons] at *
   split<;>simp only []<;>omega
  ·exact h1
 ·split
  ·split
   ·simp
   ·rename_i d q
    have h2:=Dw (d::q)
    unfold qP
    simp only [List.length_cons] at *
    repeat' split
    all_goals simp only [];omega
  ·split
   ·unfold qP;split<;>exact h1
   ·split<;>simp
theorem EZ (c:UInt8) (r:List UInt8):0<(eG (c::r)).2:=by
 rw [qI]
 split
 ·rename_i h3
  have h1:0<iI (c::r):=PI (.inl h3)
  split
  ·split<;>simp only []<;>omega
  ·exact h1
 ·split
  ·split
   ·simp
   ·unfold qP
    repeat' split
    all_goals simp only [];omega
  ·split
   ·rename_i h4
    have h1:0<iI (c::r):=PI (.inr h4)
    unfold qP;split<;>exact h1
   ·split<;>simp
def _root_.Go.Ai.aS.sca:aS→aS
 | .scope _ _ a _=>a
 | c=>c
theorem ZH:iU.code=.seq iU.code.fst (.scope 0 [0,2,3,5,6,8,10] (.seq iU.code.snd.sca.fst (.seq iU.code.snd.sca.snd.fst (.seq iU.code.snd.sca.snd.snd.fst
  (.seq iU.code.snd.sca.snd.snd.snd.fst (.seq iU.code.snd.sca.snd.snd.snd.snd.fst (.seq (.label 0) Dj)))))) gZ):=rfl
end Go.Ai.Z
