/-
 Tokens of a text.
-/
import Derived.Test.YtpnlnnfcaeednaaGreatDoorAiKTKUKV
set_option maxRecDepth 100000
set_option linter.unusedSimpArgs false
set_option linter.unusedVariables false
set_option linter.unusedSectionVars false
namespace Go.Ai.Z
def pK (b:UInt8):Bool:=decide (o8 b=1)
abbrev Tok:=Int×List UInt8×Nat
def fK (t:Tok):AV:=.ag [.i .i64 t.1,.s t.2.1,.i .i64 t.2.2]
def stT (s:St) (a n:Int):St:=s++[.cells [.ns],.cells Ae,.cells [.i .i64 a],.cells [.i .i64 n],.cells [.i .i64 (-1)]]
@[simp] theorem akv (s:St) (a n:Int):(stT s a n)[s.length]?=some (.cells [.ns]):=by simp [stT]
@[simp] theorem aku (s:St) (a n:Int):(stT s a n)[s.length+1]?=some (.cells Ae):=by simp [stT]
@[simp] theorem akt (s:St) (a n:Int):(stT s a n)[s.length+2]?=some (.cells [.i .i64 a]):=by simp [stT]
@[simp] theorem aks (s:St) (a n:Int):(stT s a n)[s.length+3]?=some (.cells [.i .i64 n]):=by simp [stT]
@[simp] theorem ajH (s:St) (a n x:Int):(stT s a n).set (s.length+2) (.cells [.i .i64 x])=stT s x n:=by simp [stT]
@[simp] theorem ajG (s:St) (a n x:Int):(stT s a n).set (s.length+3) (.cells [.i .i64 x])=stT s a x:=by simp [stT]
@[simp] theorem ajI (s:St) (a n:Int):(stT s a n).set (s.length) (.cells [.ns])=stT s a n:=by simp [stT]
@[simp] theorem ah3 (s:St) (a n:Int):(stT s a n).take s.length=s:=by simp [stT]
def xw (s:St) (src:List UInt8) (ts:List Tok):Env:=[(0,.v (.sl (aF src))),(2,.own false jX 3 (ts.map fK)),(3,.v (.pt s.length 0)),(5,.v (.pt (s.length+1) 0)),
 (6,.v (.pt (s.length+2) 0)),(8,.v (.pt (s.length+3) 0)),(10,.v (.fn (.func oK) [] [.pt (s.length+2) 0,.pt (s.length+4) 0,.pt s.length 0,.pt (s.length+3) 0]))]
theorem KL {α:Type} {l r:List α} {i k:Nat} (h:l.drop i=r):l.drop (i+k)=r.drop k:=by rw [←List.drop_drop,h]
def Dw:aS:=gW.snd
theorem PI:gW=.seq .skip Dw:=rfl
theorem Tf (ts:List Tok):(ts.map fK).all (fun e=>e.cells.length == 3)=true:=by simp [fK]
theorem aan (n:Nat) (ts:List Tok):dK n (ts.map fK)=true:=by
 induction ts with
 | nil=>simp
 | cons a r ih=>simp [fK,ih]
theorem UQ (c:UInt8) (r:List UInt8):(dZ (c::r)).2≤(c::r).length:=by
 have h1:=DL (c::r)
 rw [qR]
 split
 ·split
  ·rename_i d e q hx
   have h2:=DL (e::q)
   have h3:(c::r).length - iH (c::r)=q.length+2:=by simpa using congrArg List.length hx
   simp only [List.length_cons] at *
   split<;>simp only []<;>omega
  ·exact h1
 ·split
  ·split
   ·simp
   ·rename_i d q
    have h2:=DL (d::q)
    unfold qZ
    simp only [List.length_cons] at *
    repeat' split
    all_goals simp only [];omega
  ·split
   ·unfold qZ;split<;>exact h1
   ·split<;>simp
theorem BZ (c:UInt8) (r:List UInt8):0<(dZ (c::r)).2:=by
 rw [qR]
 split
 ·rename_i h3
  have h1:0<iH (c::r):=P8 (.inl h3)
  split
  ·split<;>simp only []<;>omega
  ·exact h1
 ·split
  ·split
   ·simp
   ·unfold qZ
    repeat' split
    all_goals simp only [];omega
  ·split
   ·rename_i h4
    have h1:0<iH (c::r):=P8 (.inr h4)
    unfold qZ;split<;>exact h1
   ·split<;>simp
def _root_.Go.Ai.aS.sca:aS→aS
 | .scope _ _ a _=>a
 | c=>c
theorem aao:iU.code=.seq iU.code.fst (.scope 0 [0,2,3,5,6,8,10] (.seq iU.code.snd.sca.fst (.seq iU.code.snd.sca.snd.fst (.seq iU.code.snd.sca.snd.snd.fst
  (.seq iU.code.snd.sca.snd.snd.snd.fst (.seq iU.code.snd.sca.snd.snd.snd.snd.fst (.seq (.label 0) Dw)))))) gW):=rfl
end Go.Ai.Z
