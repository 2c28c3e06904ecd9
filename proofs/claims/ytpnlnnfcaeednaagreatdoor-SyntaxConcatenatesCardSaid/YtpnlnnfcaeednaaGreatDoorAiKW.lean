/-
 Tokens of a text.
-/
import Derived.Test.YtpnlnnfcaeednaaGreatDoorAiKTKUKV
set_option maxRecDepth 100000
set_option linter.unusedSimpArgs false
set_option linter.unusedVariables false
set_option linter.unusedSectionVars false
namespace Go.Ai.Z
def pO (b:UInt8):Bool:=decide (o9 b=1)
abbrev Tok:=Int×List UInt8×Nat
def dR (t:Tok):AV:=.ag [.i .i64 t.1,.s t.2.1,.i .i64 t.2.2]
def stT (s:St) (a n:Int):St:=s++[.cells [.ns],.cells Ag,.cells [.i .i64 a],.cells [.i .i64 n],.cells [.i .i64 (-1)]]
@[simp] theorem akO (s:St) (a n:Int):(stT s a n)[s.length]?=some (.cells [.ns]):=by simp [stT]
@[simp] theorem akN (s:St) (a n:Int):(stT s a n)[s.length+1]?=some (.cells Ag):=by simp [stT]
@[simp] theorem akM (s:St) (a n:Int):(stT s a n)[s.length+2]?=some (.cells [.i .i64 a]):=by simp [stT]
@[simp] theorem akL (s:St) (a n:Int):(stT s a n)[s.length+3]?=some (.cells [.i .i64 n]):=by simp [stT]
@[simp] theorem ajZ (s:St) (a n x:Int):(stT s a n).set (s.length+2) (.cells [.i .i64 x])=stT s x n:=by simp [stT]
@[simp] theorem ajY (s:St) (a n x:Int):(stT s a n).set (s.length+3) (.cells [.i .i64 x])=stT s a x:=by simp [stT]
@[simp] theorem aj0 (s:St) (a n:Int):(stT s a n).set (s.length) (.cells [.ns])=stT s a n:=by simp [stT]
@[simp] theorem ain (s:St) (a n:Int):(stT s a n).take s.length=s:=by simp [stT]
def xG (s:St) (src:List UInt8) (ts:List Tok):Env:=[(0,.v (.sl (aC src))),(2,.own false jU 3 (ts.map dR)),(3,.v (.pt s.length 0)),(5,.v (.pt (s.length+1) 0)),
 (6,.v (.pt (s.length+2) 0)),(8,.v (.pt (s.length+3) 0)),(10,.v (.fn (.func oP) [] [.pt (s.length+2) 0,.pt (s.length+4) 0,.pt s.length 0,.pt (s.length+3) 0]))]
theorem KE {α:Type} {l r:List α} {i k:Nat} (h:l.drop i=r):l.drop (i+k)=r.drop k:=by rw [←List.drop_drop,h]
def Du:aT:=gW.snd
theorem P6:gW=.seq .skip Du:=rfl
theorem TP (ts:List Tok):(ts.map dR).all (fun e=>e.cells.length == 3)=true:=by simp [dR]
theorem aaG (n:Nat) (ts:List Tok):dL n (ts.map dR)=true:=by
 induction ts with
 | nil=>simp
 | cons a r ih=>simp [dR,ih]
theorem Va (c:UInt8) (r:List UInt8):(eu (c::r)).2≤(c::r).length:=by
 have h1:=DI (c::r)
 rw [qX]
 split
 ·split
  ·rename_i d e q hx
   have h2:=DI (e::q)
   have h3:(c::r).length - iF (c::r)=q.length+2:=by simpa using congrArg List.length hx
   simp only [List.length_cons] at *
   split<;>simp only []<;>omega
  ·exact h1
 ·split
  ·split
   ·simp
   ·rename_i d q
    have h2:=DI (d::q)
    unfold rG
    simp only [List.length_cons] at *
    repeat' split
    all_goals simp only [];omega
  ·split
   ·unfold rG;split<;>exact h1
   ·split<;>simp
theorem BV (c:UInt8) (r:List UInt8):0<(eu (c::r)).2:=by
 rw [qX]
 split
 ·rename_i h3
  have h1:0<iF (c::r):=Qn (.inl h3)
  split
  ·split<;>simp only []<;>omega
  ·exact h1
 ·split
  ·split
   ·simp
   ·unfold rG
    repeat' split
    all_goals simp only [];omega
  ·split
   ·rename_i h4
    have h1:0<iF (c::r):=Qn (.inr h4)
    unfold rG;split<;>exact h1
   ·split<;>simp
def _root_.Go.Ai.aT.sca:aT→aT
 | .scope _ _ a _=>a
 | c=>c
theorem aaH:iU.code=.seq iU.code.fst (.scope 0 [0,2,3,5,6,8,10] (.seq iU.code.snd.sca.fst (.seq iU.code.snd.sca.snd.fst (.seq iU.code.snd.sca.snd.snd.fst
  (.seq iU.code.snd.sca.snd.snd.snd.fst (.seq iU.code.snd.sca.snd.snd.snd.snd.fst (.seq (.label 0) Du)))))) gW):=rfl
end Go.Ai.Z
