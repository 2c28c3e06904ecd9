/-
 Axioms: their data, and the first checks.
-/
import Derived.Test.YtalbhlfigmlddaaGreatDoorAiK5K6K7InjInj2Inj3Inj4KI
set_option maxRecDepth 100000
set_option linter.unusedSimpArgs false
set_option linter.unusedVariables false
set_option linter.unusedSectionVars false
namespace Go.Ai.Z
structure Ax where
 kind:Int
 op:Bool
 left:C
 right:C
 z:Bool
 roles:List (List UInt8)
 role:List UInt8
 a:List UInt8
 b:List UInt8
def cellsA (x:Ax):List AV:=[.i .i64 x.kind,.b x.op,.i .i64 x.left.kind,.s x.left.name,.i .i64 x.left.lo,.i .i64 x.left.hi,slf x.left.z (x.left.parts.map ig),
 .i .i64 x.right.kind,.s x.right.name,.i .i64 x.right.lo,.i .i64 x.right.hi,slf x.right.z (x.right.parts.map ig),slf x.z (x.roles.map .s),.s x.role,.s x.a,.s x.b]
def kE (x:Ax):AV:=.ag (cellsA x)
@[simp] theorem aaf (x:Ax):(kE x).plain=kE x:=by simp [kE,cellsA]
@[simp] theorem aaA (x:Ax):(kE x).cells=[.i .i64 x.kind,.b x.op,.i .i64 x.left.kind,.s x.left.name,.i .i64 x.left.lo,.i .i64 x.left.hi,slf x.left.z (x.left.parts.map ig),
 .i .i64 x.right.kind,.s x.right.name,.i .i64 x.right.lo,.i .i64 x.right.hi,slf x.right.z (x.right.parts.map ig),slf x.z (x.roles.map .s),.s x.role,.s x.a,.s x.b]:=rfl
@[simp] theorem aa9 (x:Ax):AV.ag [.i .i64 x.kind,.b x.op,.i .i64 x.left.kind,.s x.left.name,.i .i64 x.left.lo,.i .i64 x.left.hi,slf x.left.z (x.left.parts.map ig),
 .i .i64 x.right.kind,.s x.right.name,.i .i64 x.right.lo,.i .i64 x.right.hi,slf x.right.z (x.right.parts.map ig),slf x.z (x.roles.map .s),.s x.role,.s x.a,.s x.b]=kE x:=rfl
def emptyS (c:C):Bool:=decide (c.kind=0) && decide (c.name=[]) && decide (c.lo=0) && decide (c.hi=0) && decide ((c.parts.length:Int)=0)
@[simp] theorem V3 (c:C) (s:St) (cx:Ctx):aj P0 (.fn (.func kK) [] []) [ig c] s cx=.ret (.b (emptyS c)) s:=by
 refine H7 (by simp) ?_
 simp [ah,pO,emptyS]
 repeat' (first | (split<;>(try simp only [dQ,dR,dS,iO,iP])<;>(try simp [*])) | (simp only [dQ,dR,dS,iO,iP]<;>(try simp [*]))|omega)
theorem oI (l:List UInt8) (hl:l.length≤1152921504606846976) (s:St) (cx:Ctx):aj P0 (.fn (.func dP) [] []) [.s l] s cx=.ret (.i .i64 (if (lU l || GL l)=true then 0 else 20)) s:=by
 refine Ey (by simp) ?_
 have e1:=wX l hl
 rcases Bool.eq_false_or_eq_true (lU l) with h1|h1<;>rcases Bool.eq_false_or_eq_true (GL l) with h2|h2<;>simp [ah,nD,e1,h1,h2]
structure Use where
 l:Bool
 r:Bool
 role:Bool
 a:Bool
 b:Bool
 lo:Int
 hi:Int
def sQ (k:Int):Use:=
 if k=1 then ⟨true,true,false,false,false,0,0⟩ else if k=2 then ⟨true,true,false,false,false,0,0⟩ else if k=3 then ⟨true,true,false,false,false,0,0⟩
 else if k=4 then ⟨false,true,true,false,false,0,0⟩ else if k=5 then ⟨false,false,true,false,false,1,1⟩ else if k=6 then ⟨false,false,true,false,false,2,4⟩
 else if k=7 then ⟨false,false,true,false,false,0,0⟩ else if k=8 then ⟨false,true,false,true,false,0,0⟩ else if k=9 then ⟨false,false,true,true,true,0,0⟩ else ⟨false,false,false,false,false,0,0⟩
def Tm (u:Use):AV:=.ag [.b u.l,.b u.r,.b u.role,.b u.a,.b u.b,.i .i64 u.lo,.i .i64 u.hi]
@[simp] theorem aac (u:Use):(Tm u).plain=Tm u:=by simp [Tm]
@[simp] theorem aax (u:Use):(Tm u).cells=[.b u.l,.b u.r,.b u.role,.b u.a,.b u.b,.i .i64 u.lo,.i .i64 u.hi]:=rfl
@[simp] theorem aa6 (u:Use):AV.ag [.b u.l,.b u.r,.b u.role,.b u.a,.b u.b,.i .i64 u.lo,.i .i64 u.hi]=Tm u:=rfl
def RJ:List AV:=(P0.glob rW).getD []
theorem Ie:P0.glob rW=some RJ:=rfl
theorem Ko:RJ.length=70:=rfl
theorem TP {k:Int} (h1:1≤k) (h9:k≤9):(RJ.drop (k.toNat * 7)).take 7=[.b (sQ k).l,.b (sQ k).r,.b (sQ k).role,.b (sQ k).a,.b (sQ k).b,.i .i64 (sQ k).lo,.i .i64 (sQ k).hi]:=by
 have:k=1∨k=2∨k=3∨k=4∨k=5∨k=6∨k=7∨k=8∨k=9:=by omega
 rcases this with rfl|rfl|rfl|rfl|rfl|rfl|rfl|rfl|rfl<;>rfl
def Eh (x:Ax):Bool:=decide (1≤x.kind) && decide (x.kind≤9)
def vJ (x:Ax):Bool:=Eh x && ((sQ x.kind).l || emptyS x.left) && ((sQ x.kind).r || emptyS x.right) && ((sQ x.kind).role || decide (x.role=[])) && ((sQ x.kind).a || decide (x.a=[])) && ((sQ x.kind).b || decide (x.b=[])) &&
 decide ((sQ x.kind).lo≤x.roles.length) && decide ((x.roles.length:Int)≤(sQ x.kind).hi)
set_option maxHeartbeats 2000000 in
@[simp] theorem VR (x:Ax) (s:St) (cx:Ctx):aj P0 (.fn (.func mJ) [] []) [kE x] s cx=.ret (.b (vJ x)) s:=by
 refine FN (by simp) ?_
 by_cases h1:x.kind<1
 ·simp [ah,jy,h1,vJ,Eh,show ¬(1≤x.kind) by omega]
 by_cases h9:9<x.kind
 ·simp [ah,jy,h1,h9,vJ,Eh,show ¬(x.kind≤9) by omega]
 have b1:0≤x.kind:=by omega
 have b2:x.kind.toNat<10:=by omega
 have b3:7≤70 - x.kind.toNat * 7:=by omega
 have hu:=TP (k:=x.kind) (by omega) (by omega)
 have hk:Eh x=true:=by simp [Eh];omega
 unfold vJ
 rw [hk]
 have hk9:x.kind=1∨x.kind=2∨x.kind=3∨x.kind=4∨x.kind=5∨x.kind=6∨x.kind=7∨x.kind=8∨x.kind=9:=by omega
 clear hk
 rcases hk9 with k|k|k|k|k|k|k|k|k
 all_goals
  have ku:=congrArg sQ k
  rw [ku] at hu ⊢
  clear ku k
  simp [sQ] at hu ⊢
  simp [ah,jy,h1,h9,b1,b2,b3,Ie,Ko,hu]
  clear hu b1 b2 b3 h1 h9
  repeat' (first | (split<;>(try simp only [dQ,dR,dS,iO,iP])<;>(try simp [*])) | (simp only [dQ,dR,dS,iO,iP]<;>(try simp [*]))|omega)
end Go.Ai.Z
