/-
 Axioms: their data, and the first checks.
-/
import Derived.Test.YtalbhlfigmlddaaGreatDoorAiK5K6K7InjInj2Inj3Inj4KI
set_option maxRecDepth 100000
set_option linter.unusedSimpArgs false
set_option linter.unusedVariables false
set_option linter.unusedSectionVars false
namespace Go.Ai.Z
structure Ax where
 kind:Int
 op:Bool
 left:C
 right:C
 z:Bool
 roles:List (List UInt8)
 role:List UInt8
 a:List UInt8
 b:List UInt8
def cellsA (x:Ax):List AV:=[.i .i64 x.kind,.b x.op,.i .i64 x.left.kind,.s x.left.name,.i .i64 x.left.lo,.i .i64 x.left.hi,slf x.left.z (x.left.parts.map iM),
 .i .i64 x.right.kind,.s x.right.name,.i .i64 x.right.lo,.i .i64 x.right.hi,slf x.right.z (x.right.parts.map iM),slf x.z (x.roles.map .s),.s x.role,.s x.a,.s x.b]
def pG (x:Ax):AV:=.ag (cellsA x)
@[simp] theorem ab1 (x:Ax):(pG x).plain=pG x:=by simp [pG,cellsA]
@[simp] theorem acr (x:Ax):(pG x).cells=[.i .i64 x.kind,.b x.op,.i .i64 x.left.kind,.s x.left.name,.i .i64 x.left.lo,.i .i64 x.left.hi,slf x.left.z (x.left.parts.map iM),
 .i .i64 x.right.kind,.s x.right.name,.i .i64 x.right.lo,.i .i64 x.right.hi,slf x.right.z (x.right.parts.map iM),slf x.z (x.roles.map .s),.s x.role,.s x.a,.s x.b]:=rfl
@[simp] theorem ac3 (x:Ax):AV.ag [.i .i64 x.kind,.b x.op,.i .i64 x.left.kind,.s x.left.name,.i .i64 x.left.lo,.i .i64 x.left.hi,slf x.left.z (x.left.parts.map iM),
 .i .i64 x.right.kind,.s x.right.name,.i .i64 x.right.lo,.i .i64 x.right.hi,slf x.right.z (x.right.parts.map iM),slf x.z (x.roles.map .s),.s x.role,.s x.a,.s x.b]=pG x:=rfl
def emptyS (c:C):Bool:=decide (c.kind=0) && decide (c.name=[]) && decide (c.lo=0) && decide (c.hi=0) && decide ((c.parts.length:Int)=0)
@[simp] theorem XY (c:C) (s:St) (cx:Ctx):aj P0 (.fn (.func kZ) [] []) [iM c] s cx=.ret (.b (emptyS c)) s:=by
 refine I5 (by simp) ?_
 simp [ah,qE,emptyS]
 repeat' (first | (split<;>(try simp only [dW,dX,dY,iK,iL])<;>(try simp [*])) | (simp only [dW,dX,dY,iK,iL]<;>(try simp [*]))|omega)
theorem pK (l:List UInt8) (hl:l.length≤1152921504606846976) (s:St) (cx:Ctx):aj P0 (.fn (.func eH) [] []) [.s l] s cx=.ret (.i .i64 (if (lY l || FY l)=true then 0 else 20)) s:=by
 refine Fb (by simp) ?_
 have e1:=yc l hl
 rcases Bool.eq_false_or_eq_true (lY l) with h1|h1<;>rcases Bool.eq_false_or_eq_true (FY l) with h2|h2<;>simp [ah,oh,e1,h1,h2]
structure Use where
 l:Bool
 r:Bool
 role:Bool
 a:Bool
 b:Bool
 lo:Int
 hi:Int
def uo (k:Int):Use:=
 if k=1 then ⟨true,true,false,false,false,0,0⟩ else if k=2 then ⟨true,true,false,false,false,0,0⟩ else if k=3 then ⟨true,true,false,false,false,0,0⟩
 else if k=4 then ⟨false,true,true,false,false,0,0⟩ else if k=5 then ⟨false,false,true,false,false,1,1⟩ else if k=6 then ⟨false,false,true,false,false,2,4⟩
 else if k=7 then ⟨false,false,true,false,false,0,0⟩ else if k=8 then ⟨false,true,false,true,false,0,0⟩ else if k=9 then ⟨false,false,true,true,true,0,0⟩ else ⟨false,false,false,false,false,0,0⟩
def U0 (u:Use):AV:=.ag [.b u.l,.b u.r,.b u.role,.b u.a,.b u.b,.i .i64 u.lo,.i .i64 u.hi]
@[simp] theorem abX (u:Use):(U0 u).plain=U0 u:=by simp [U0]
@[simp] theorem acn (u:Use):(U0 u).cells=[.b u.l,.b u.r,.b u.role,.b u.a,.b u.b,.i .i64 u.lo,.i .i64 u.hi]:=rfl
@[simp] theorem ac0 (u:Use):AV.ag [.b u.l,.b u.r,.b u.role,.b u.a,.b u.b,.i .i64 u.lo,.i .i64 u.hi]=U0 u:=rfl
def Uh:List AV:=(P0.glob tK).getD []
theorem Je:P0.glob tK=some Uh:=rfl
theorem LK:Uh.length=70:=rfl
theorem Vm {k:Int} (h1:1≤k) (h9:k≤9):(Uh.drop (k.toNat * 7)).take 7=[.b (uo k).l,.b (uo k).r,.b (uo k).role,.b (uo k).a,.b (uo k).b,.i .i64 (uo k).lo,.i .i64 (uo k).hi]:=by
 have:k=1∨k=2∨k=3∨k=4∨k=5∨k=6∨k=7∨k=8∨k=9:=by omega
 rcases this with rfl|rfl|rfl|rfl|rfl|rfl|rfl|rfl|rfl<;>rfl
def ER (x:Ax):Bool:=decide (1≤x.kind) && decide (x.kind≤9)
def wP (x:Ax):Bool:=ER x && ((uo x.kind).l || emptyS x.left) && ((uo x.kind).r || emptyS x.right) && ((uo x.kind).role || decide (x.role=[])) && ((uo x.kind).a || decide (x.a=[])) && ((uo x.kind).b || decide (x.b=[])) &&
 decide ((uo x.kind).lo≤x.roles.length) && decide ((x.roles.length:Int)≤(uo x.kind).hi)
set_option maxHeartbeats 2000000 in
@[simp] theorem XM (x:Ax) (s:St) (cx:Ctx):aj P0 (.fn (.func nJ) [] []) [pG x] s cx=.ret (.b (wP x)) s:=by
 refine Gx (by simp) ?_
 by_cases h1:x.kind<1
 ·simp [ah,jM,h1,wP,ER,show ¬(1≤x.kind) by omega]
 by_cases h9:9<x.kind
 ·simp [ah,jM,h1,h9,wP,ER,show ¬(x.kind≤9) by omega]
 have b1:0≤x.kind:=by omega
 have b2:x.kind.toNat<10:=by omega
 have b3:7≤70 - x.kind.toNat * 7:=by omega
 have hu:=Vm (k:=x.kind) (by omega) (by omega)
 have hk:ER x=true:=by simp [ER];omega
 unfold wP
 rw [hk]
 have hk9:x.kind=1∨x.kind=2∨x.kind=3∨x.kind=4∨x.kind=5∨x.kind=6∨x.kind=7∨x.kind=8∨x.kind=9:=by omega
 clear hk
 rcases hk9 with k|k|k|k|k|k|k|k|k
 all_goals
  have ku:=congrArg uo k
  rw [ku] at hu ⊢
  clear ku k
  simp [uo] at hu ⊢
  simp [ah,jM,h1,h9,b1,b2,b3,Je,LK,hu]
  clear hu b1 b2 b3 h1 h9
  repeat' (first | (split<;>(try simp only [dW,dX,dY,iK,iL])<;>(try simp [*])) | (simp only [dW,dX,dY,iK,iL]<;>(try simp [*]))|omega)
end Go.Ai.Z
