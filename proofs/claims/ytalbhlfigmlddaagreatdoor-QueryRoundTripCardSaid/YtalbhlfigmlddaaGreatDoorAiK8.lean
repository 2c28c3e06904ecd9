/-
 Axioms: their data, and the first checks.
-/
import Derived.Test.YtalbhlfigmlddaaGreatDoorAiK5K6K7InjInj2Inj3Inj4KI
set_option maxRecDepth 100000
set_option linter.unusedSimpArgs false
set_option linter.unusedVariables false
set_option linter.unusedSectionVars false
namespace Go.Ai.Z
structure Ax where
 kind:Int
 op:Bool
 left:C
 right:C
 z:Bool
 roles:List (List UInt8)
 role:List UInt8
 a:List UInt8
 b:List UInt8
def cellsA (x:Ax):List AV:=[.i .i64 x.kind,.b x.op,.i .i64 x.left.kind,.s x.left.name,.i .i64 x.left.lo,.i .i64 x.left.hi,slf x.left.z (x.left.parts.map jZ),
 .i .i64 x.right.kind,.s x.right.name,.i .i64 x.right.lo,.i .i64 x.right.hi,slf x.right.z (x.right.parts.map jZ),slf x.z (x.roles.map .s),.s x.role,.s x.a,.s x.b]
def uK (x:Ax):AV:=.ag (cellsA x)
@[simp] theorem afG (x:Ax):(uK x).plain=uK x:=by simp [uK,cellsA]
@[simp] theorem af6 (x:Ax):(uK x).cells=[.i .i64 x.kind,.b x.op,.i .i64 x.left.kind,.s x.left.name,.i .i64 x.left.lo,.i .i64 x.left.hi,slf x.left.z (x.left.parts.map jZ),
 .i .i64 x.right.kind,.s x.right.name,.i .i64 x.right.lo,.i .i64 x.right.hi,slf x.right.z (x.right.parts.map jZ),slf x.z (x.roles.map .s),.s x.role,.s x.a,.s x.b]:=rfl
@[simp] theorem agM (x:Ax):AV.ag [.i .i64 x.kind,.b x.op,.i .i64 x.left.kind,.s x.left.name,.i .i64 x.left.lo,.i .i64 x.left.hi,slf x.left.z (x.left.parts.map jZ),
 .i .i64 x.right.kind,.s x.right.name,.i .i64 x.right.lo,.i .i64 x.right.hi,slf x.right.z (x.right.parts.map jZ),slf x.z (x.roles.map .s),.s x.role,.s x.a,.s x.b]=uK x:=rfl
def emptyS (c:C):Bool:=decide (c.kind=0) && decide (c.name=[]) && decide (c.lo=0) && decide (c.hi=0) && decide ((c.parts.length:Int)=0)
@[simp] theorem abf (c:C) (s:St) (cx:Ctx):aj P0 (.fn (.func mY) [] []) [jZ c] s cx=.ret (.b (emptyS c)) s:=by
 refine Ld (by simp) ?_
 simp [af,sJ,emptyS]
 repeat' (first | (split<;>(try simp only [dD,dF,dH,gW,gX])<;>(try simp [*])) | (simp only [dD,dF,dH,gW,gX]<;>(try simp [*]))|omega)
theorem qZ (l:List UInt8) (hl:l.length≤1152921504606846976) (s:St) (cx:Ctx):aj P0 (.fn (.func fD) [] []) [.s l] s cx=.ret (.i .i64 (if (jU l || FN l)=true then 0 else 20)) s:=by
 refine Ik (by simp) ?_
 have e1:=zJ l hl
 rcases Bool.eq_false_or_eq_true (jU l) with h1|h1<;>rcases Bool.eq_false_or_eq_true (FN l) with h2|h2<;>simp [af,qc,e1,h1,h2]
structure Use where
 l:Bool
 r:Bool
 role:Bool
 a:Bool
 b:Bool
 lo:Int
 hi:Int
def wF (k:Int):Use:=
 if k=1 then ⟨true,true,false,false,false,0,0⟩ else if k=2 then ⟨true,true,false,false,false,0,0⟩ else if k=3 then ⟨true,true,false,false,false,0,0⟩
 else if k=4 then ⟨false,true,true,false,false,0,0⟩ else if k=5 then ⟨false,false,true,false,false,1,1⟩ else if k=6 then ⟨false,false,true,false,false,2,4⟩
 else if k=7 then ⟨false,false,true,false,false,0,0⟩ else if k=8 then ⟨false,true,false,true,false,0,0⟩ else if k=9 then ⟨false,false,true,true,true,0,0⟩ else ⟨false,false,false,false,false,0,0⟩
def Yj (u:Use):AV:=.ag [.b u.l,.b u.r,.b u.role,.b u.a,.b u.b,.i .i64 u.lo,.i .i64 u.hi]
@[simp] theorem afD (u:Use):(Yj u).plain=Yj u:=by simp [Yj]
@[simp] theorem af2 (u:Use):(Yj u).cells=[.b u.l,.b u.r,.b u.role,.b u.a,.b u.b,.i .i64 u.lo,.i .i64 u.hi]:=rfl
@[simp] theorem agJ (u:Use):AV.ag [.b u.l,.b u.r,.b u.role,.b u.a,.b u.b,.i .i64 u.lo,.i .i64 u.hi]=Yj u:=rfl
def XA:List AV:=(P0.glob vN).getD []
theorem Lu:P0.glob vN=some XA:=rfl
theorem OH:XA.length=70:=rfl
theorem YF {k:Int} (h1:1≤k) (h9:k≤9):(XA.drop (k.toNat * 7)).take 7=[.b (wF k).l,.b (wF k).r,.b (wF k).role,.b (wF k).a,.b (wF k).b,.i .i64 (wF k).lo,.i .i64 (wF k).hi]:=by
 have:k=1∨k=2∨k=3∨k=4∨k=5∨k=6∨k=7∨k=8∨k=9:=by omega
 rcases this with rfl|rfl|rfl|rfl|rfl|rfl|rfl|rfl|rfl<;>rfl
def H8 (x:Ax):Bool:=decide (1≤x.kind) && decide (x.kind≤9)
def yF (x:Ax):Bool:=H8 x && ((wF x.kind).l || emptyS x.left) && ((wF x.kind).r || emptyS x.right) && ((wF x.kind).role || decide (x.role=[])) && ((wF x.kind).a || decide (x.a=[])) && ((wF x.kind).b || decide (x.b=[])) &&
 decide ((wF x.kind).lo≤x.roles.length) && decide ((x.roles.length:Int)≤(wF x.kind).hi)
set_option maxHeartbeats 2000000 in
@[simp] theorem aa3 (x:Ax) (s:St) (cx:Ctx):aj P0 (.fn (.func o8) [] []) [uK x] s cx=.ret (.b (yF x)) s:=by
 refine Jp (by simp) ?_
 by_cases h1:x.kind<1
 ·simp [af,kW,h1,yF,H8,show ¬(1≤x.kind) by omega]
 by_cases h9:9<x.kind
 ·simp [af,kW,h1,h9,yF,H8,show ¬(x.kind≤9) by omega]
 have b1:0≤x.kind:=by omega
 have b2:x.kind.toNat<10:=by omega
 have b3:7≤70 - x.kind.toNat * 7:=by omega
 have hu:=YF (k:=x.kind) (by omega) (by omega)
 have hk:H8 x=true:=by simp [H8];omega
 unfold yF
 rw [hk]
 have hk9:x.kind=1∨x.kind=2∨x.kind=3∨x.kind=4∨x.kind=5∨x.kind=6∨x.kind=7∨x.kind=8∨x.kind=9:=by omega
 clear hk
 rcases hk9 with k|k|k|k|k|k|k|k|k
 all_goals
  have ku:=congrArg wF k
  rw [ku] at hu ⊢
  clear ku k
  simp [wF] at hu ⊢
  simp [af,kW,h1,h9,b1,b2,b3,Lu,OH,hu]
  clear hu b1 b2 b3 h1 h9
  repeat' (first | (split<;>(try simp only [dD,dF,dH,gW,gX])<;>(try simp [*])) | (simp only [dD,dF,dH,gW,gX]<;>(try simp [*]))|omega)
end Go.Ai.Z
