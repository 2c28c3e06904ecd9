/-
 The reference's comparison of atoms and of parts.
-/
import Derived.Test.YtdjjghikaijfpaaGreatDoorAiQA1QA0QA2QA3QA4
import Derived.Test.YtdjjghikaijfpaaGreatDoorAiK8K9K10K11K12
set_option maxRecDepth 100000
set_option linter.unusedSimpArgs false
set_option linter.unusedVariables false
set_option linter.unusedSectionVars false
namespace Go.Ai.Z
open Go.Lib (compareBytes)
theorem aeR (M:List At) (hM:M.length≤100000) (s:St) (cx:Ctx):∀(rest:List At) (i:Nat),M.drop i=rest→
  ∃j:Int,bF (ay P0.glob (aj P0) cx false oP) [2,3,5] [(2,.bx [.sl (M.map bG)]),(3,.bx [.sl (M.map bG)]),(5,.v (.i .i64 i))] s=
   .exit 0 [(2,.bx [.sl (M.map bG)]),(3,.bx [.sl (M.map bG)]),(5,.v (.i .i64 j)),(17,.v (.b false))] s
 | [],i,h=>by
  have h1:¬i<M.length:=Nat.not_lt.2 (drop_nil h)
  refine ⟨i,ak fun K hK=>?_⟩
  simp [oP,h1]
 | p::r,i,h=>by
  obtain ⟨h1,h2,h3,h4⟩:=drop_cons h
  have h5:=h4 h3
  have hwi:=wI (i:=i) (by omega)
  obtain ⟨j,ih⟩:=aeR M hM s cx r (i+1) h2
  refine ⟨j,ak fun K hK=>?_⟩
  rw [←hK] at ih
  clear hK h4
  simp at ih
  have hq:=amQ p p
  rw [(UN (a:=p) (b:=p)).2 rfl] at hq
  simp [oP,h3,h5,hwi,ih,bG,hq]
theorem aiE (M:List At) (hM:M.length≤100000) (s:St) (cx:Ctx):aj P0 (.fn (.func qJ) [] []) [.ag [.sl (M.map bG)],.ag [.sl (M.map bG)]] s cx=.ret (.b true) s:=by
 refine MV (by simp) ?_
 obtain ⟨j,h⟩:=aeR M hM s ⟨s.length,s.length⟩ M 0 rfl
 simp at h
 simp [af,sQ,h]
end Go.Ai.Z
namespace Go.Ai.Z
end Go.Ai.Z
namespace Go.Ai.Z
end Go.Ai.Z
namespace Go.Ai.Z
def SY (k:Int):Bool:=(decide (97≤k) && decide (k≤122)) || (decide (65≤k) && decide (k≤90))
@[simp] theorem afA (k:Int) (s:St) (cx:Ctx):aj P0 (.fn (.func nP) [] []) [.i .u8 k] s cx=.ret (.b (SY k)) s:=by
 refine QY (by simp) ?_
 simp [af,vV,SY]
 repeat' (split<;>simp only [dG,dH,dI]<;>simp [*])
def headB (b:UInt8):List UInt8→Bool
 | []=>false
 | c::_=>decide (c=b)
theorem FI (l:List UInt8) (b:UInt8) (s:St) (cx:Ctx):aj P0 (.fn (.func gq) [] []) [.s l,.s [b]] s cx=.ret (.b (headB b l)) s:=by
 have e1:aj P0 (.fn (.func fD) [] []) [.s l,.s [b]] s ⟨s.length,s.length⟩=.ret (.b (headB b l)) s:=by
  refine xq (by simp) ?_
  cases l with
  | nil=>simp [af,eG,headB]
  | cons c r=>
   have h1:(1:Int)≤(r.length:Int)+1:=by omega
   by_cases h:c=b<;>simp [af,eG,headB,h,h1]
 refine Ih (by simp) ?_
 simp [af,oL,e1]
@[simp] theorem Ye (l:List UInt8) (s:St) (cx:Ctx):aj P0 (.fn (.func iR) [] []) [.s l] s cx=.ret (.b (headB 63 l)) s:=by
 refine Fh (by simp) ?_
 simp [af,mF,FI]
def zB (l:List UInt8):Bool:=(jc l || Gg l) && !headB 95 l
theorem zJ (l:List UInt8) (hl:l.length≤1152921504606846976) (s:St) (cx:Ctx):aj P0 (.fn (.func jr) [] []) [.s l] s cx=.ret (.b (zB l)) s:=by
 have e1:=o7 l hl
 refine GH (by simp) ?_
 cases h:(jc l || Gg l)
 ·rw [h] at e1
  simp at e1
  simp [af,jZ,e1,zB,h]
 ·rw [h] at e1
  simp at e1
  simp [af,jZ,e1,zB,h,FI]
def Yh (k:Int):Bool:=SY k || (decide (48≤k) && decide (k≤57)) || decide (k=95)
def Qw:List UInt8→Bool
 | []=>true
 | b::r=>Yh b.toNat && Qw r
def yE:List UInt8→Bool
 | a::b::r=>decide (r.length≤15) && decide (a=63) && SY b.toNat && Qw r
 | _=>false
theorem MJ (s:St) (cx:Ctx) (l:List UInt8) (hl:l.length≤100):∀(rest:List UInt8) (i:Nat),l.drop i=rest→
  ∃j:Int,bF (ay P0.glob (aj P0) cx false eX) [0,3] [(0,.v (.s l)),(3,.v (.i .i64 i))] s=
   if Qw rest=true then .exit 0 [(0,.v (.s l)),(3,.v (.i .i64 j)),(27,.v (.b false))] s else .ret [(2,.v (.b false))] s
 | [],i,h=>by
  have h1:¬i<l.length:=Nat.not_lt.2 (drop_nil h)
  refine ⟨i,ak fun K hK=>?_⟩
  simp [eX,h1,Qw]
 | b::r,i,h=>by
  obtain ⟨h1,h2,h3,h4⟩:=drop_cons h
  have h5:=h4 h3
  have hw:=wI (i:=i) (by omega)
  obtain ⟨j,ih⟩:=MJ s cx l hl r (i+1) h2
  refine ⟨j,ak fun K hK=>?_⟩
  rw [←hK,show ((i+1:Nat):Int)=(i:Int)+1 from rfl] at ih
  clear hK
  cases hv:SY b.toNat
  ·by_cases q1:(b.toNat:Int)<48
   ·have q1':¬(48≤(b.toNat:Int)):=by omega
    by_cases q2:(b.toNat:Int)=95
    ·omega
    ·simp [eX,h3,h5,Qw,Yh,hv,hw,ih,q1,q1',q2]
     repeat' (first | (split<;>(try simp only [dG,dH,dI,gQ,gU])<;>(try simp [*])) | (simp only [dG,dH,dI,gQ,gU]<;>(try simp [*]))|omega)
   ·have q1':48≤(b.toNat:Int):=by omega
    by_cases q3:(b.toNat:Int)≤57
    ·have q3':¬(57<(b.toNat:Int)):=by omega
     simp [eX,h3,h5,Qw,Yh,hv,hw,ih,q1,q1',q3,q3']
     repeat' (first | (split<;>(try simp only [dG,dH,dI,gQ,gU])<;>(try simp [*])) | (simp only [dG,dH,dI,gQ,gU]<;>(try simp [*]))|omega)
    ·have q3':57<(b.toNat:Int):=by omega
     by_cases q2:(b.toNat:Int)=95
     ·simp [eX,h3,h5,Qw,Yh,hv,hw,ih,q1,q1',q3,q3',q2]
      repeat' (first | (split<;>(try simp only [dG,dH,dI,gQ,gU])<;>(try simp [*])) | (simp only [dG,dH,dI,gQ,gU]<;>(try simp [*]))|omega)
     ·simp [eX,h3,h5,Qw,Yh,hv,hw,ih,q1,q1',q3,q3',q2]
      repeat' (first | (split<;>(try simp only [dG,dH,dI,gQ,gU])<;>(try simp [*])) | (simp only [dG,dH,dI,gQ,gU]<;>(try simp [*]))|omega)
  ·simp [eX,h3,h5,Qw,Yh,hv,hw,ih]
theorem BN (l:List UInt8) (s:St) (cx:Ctx):aj P0 (.fn (.func kR) [] []) [.s l] s cx=.ret (.b (yE l)) s:=by
 refine JR (by simp) ?_
 match l with
 | []=>simp [af,dY,yE]
 | [a]=>simp [af,dY,yE]
 | a::b::r=>
  have h1:¬((r.length:Int)+1+1<2):=by omega
  by_cases h2:r.length≤15
  ·have h2':¬((17:Int)<(r.length:Int)+1+1):=by omega
   obtain ⟨j,h⟩:=MJ s ⟨s.length,s.length⟩ (a::b::r) (by simp;omega) r 2 rfl
   simp at h
   by_cases h3:a=63
   ·subst h3
    cases h4:SY b.toNat
    ·simp [af,dY,yE,h1,h2,h2',h4]
    ·cases h5:Qw r
     ·simp [h5] at h
      simp [af,dY,yE,h1,h2,h2',h4,h5,h]
     ·simp [h5] at h
      simp [af,dY,yE,h1,h2,h2',h4,h5,h]
   ·have h3':¬((a.toNat:Int)=63):=by
     intro h6
     have h7:a.toNat=63:=by omega
     exact h3 (UInt8.toNat_inj.1 h7)
    simp [af,dY,yE,h1,h2,h2',h3,h3']
  ·have h2':(17:Int)<(r.length:Int)+1+1:=by omega
   simp [af,dY,yE,h1,h2,h2']
def qg (l:List UInt8):Bool:=yE l || zB l
theorem UX (l:List UInt8) (hl:l.length≤1152921504606846976) (s:St) (cx:Ctx):aj P0 (.fn (.func uF) [] []) [.s l] s cx=.ret (.b (qg l)) s:=by
 have e1:=BN l
 have e2:=zJ l hl
 refine QZ (by simp) ?_
 cases h:yE l
 ·simp [af,rO,e1,e2,qg,h]
 ·simp [af,rO,e1,e2,qg,h]
end Go.Ai.Z
namespace Go.Ai.Z
structure At.Ok0 (a:At):Prop where
 n:a.name.length≤1125899906842624
 x:a.x.length≤1125899906842624
 y:a.y.length≤1125899906842624
def Ey (a:At):List (List UInt8):=if a.kind=2 then [a.x,a.y] else [a.x]
theorem Rh (a:At) (s:St) (cx:Ctx):aj P0 (.fn (.func rY) [] []) [bG a] s cx=.ret (.sl ((Ey a).map .s)) s:=by
 have hr:List.range 2=[0,1]:=rfl
 refine O0 (by simp) ?_
 by_cases h:a.kind=2
 ·simp [af,qB,bG,Ey,h,hr]
 ·simp [af,qB,bG,Ey,h]
theorem dB (s:St) (cx:Ctx):aj P0 (.fn (.func vK) [] []) [] s cx=.ret (.ag [.b false,.b false,.b false,.b false,.b true,.b false,.b false,.b true]) s:=by
 refine Ut (by simp) ?_
 simp [af,xI,iI,splice]
theorem P9 (T:List (List UInt8)) (hT:T.length≤10) (hl:∀t∈T,t.length≤1152921504606846976) (s:St) (cx:Ctx):∀(rest:List (List UInt8)) (i:Nat),T.drop i=rest→
  ∃j:Int,bF (ay P0.glob (aj P0) cx false kD) [61,62,63] [(61,.v (.sl (T.map .s))),(62,.v (.i .i64 T.length)),(63,.v (.i .i64 i))] s=
   if rest.all qg=true then .exit 0 [(61,.v (.sl (T.map .s))),(62,.v (.i .i64 T.length)),(63,.v (.i .i64 j)),(64,.v (.b false))] s else .ret [(2,.v (.i .i64 20))] s
 | [],i,h=>by
  have h1:¬i<T.length:=Nat.not_lt.2 (drop_nil h)
  refine ⟨i,ak fun K hK=>?_⟩
  simp [kD,h1]
 | p::r,i,h=>by
  obtain ⟨h1,h2,h3,h4⟩:=drop_cons h
  have h5:=h4 h3
  have hw:=wI (i:=i) (by omega)
  have hp:p∈T:=by rw [←List.take_append_drop i T,h];simp
  have e1:=UX p (hl p hp)
  obtain ⟨j,ih⟩:=P9 T hT hl s cx r (i+1) h2
  refine ⟨j,ak fun K hK=>?_⟩
  rw [←hK,show ((i+1:Nat):Int)=(i:Int)+1 from rfl] at ih
  clear hK
  cases ht:qg p
  ·simp [kD,h3,h5,hw,e1,ht]
  ·simp only [List.all_cons,ht,Bool.true_and]
   simp [kD,h3,h5,hw,e1,ht,ih]
def atE (a:At):Int:=
 if a.kind<1∨3<a.kind then 210
 else if (a.kind≠2∧a.y≠[])∨(a.kind≠3∧(a.lo≠0∨a.hi≠0)) then 210
 else if a.lo < -1099511627776∨a.hi<a.lo∨1099511627776<a.hi then 210
 else if zB a.name=false then 20
 else if (Ey a).all qg=true then 0 else 20
theorem NG (a:At) (h:a.Ok0) (s:St) (cx:Ctx):aj P0 (.fn (.func pF) [] []) [bG a] s cx=.ret (.i .i64 (atE a)) s:=by
 have e1:=Rh a
 have e2:=zJ a.name (by have:=h.n;omega)
 have hT:(Ey a).length≤10:=by unfold Ey;split<;>simp
 have hTl:∀t∈Ey a,t.length≤1152921504606846976:=by
  intro t ht
  have hx:=h.x
  have hy:=h.y
  unfold Ey at ht
  split at ht
  ·simp at ht;rcases ht with rfl|rfl<;>omega
  ·simp at ht;subst ht;omega
 obtain ⟨j,hL⟩:=P9 (Ey a) hT hTl s ⟨s.length,s.length⟩ (Ey a) 0 rfl
 rw [show ((0:Nat):Int)=0 from rfl] at hL
 refine Le (by simp) ?_
 obtain ⟨k,n,x,y,lo,hi⟩:=a
 simp only [bG] at e1
 by_cases k0:k<1
 ·simp [af,aH,bG,atE,k0]
 by_cases k3:3<k
 ·simp [af,aH,bG,atE,k0,k3]
 have hk:k=1∨k=2∨k=3:=by omega
 rcases hk with rfl|rfl|rfl
 ·cases y with
  | cons c y=>simp [af,aH,bG,atE,dB]
  | nil=>
   by_cases h2:lo=0
   ·by_cases h3:hi=0
    ·subst h2 h3
     cases h4:zB n
     ·simp [af,aH,bG,atE,dB,e1,e2,h4]
     ·cases h5:(Ey ⟨1,n,x,[],0,0⟩).all qg
      ·simp [h5] at hL;simp [af,aH,bG,atE,dB,e1,e2,h4,h5,hL]
      ·simp [h5] at hL;simp [af,aH,bG,atE,dB,e1,e2,h4,h5,hL]
    ·simp [af,aH,bG,atE,dB,h2,h3]
   ·simp [af,aH,bG,atE,dB,h2]
 ·by_cases h2:lo=0
  ·by_cases h3:hi=0
   ·subst h2 h3
    cases h4:zB n
    ·simp [af,aH,bG,atE,dB,e1,e2,h4]
    ·cases h5:(Ey ⟨2,n,x,y,0,0⟩).all qg
     ·simp [h5] at hL;simp [af,aH,bG,atE,dB,e1,e2,h4,h5,hL]
     ·simp [h5] at hL;simp [af,aH,bG,atE,dB,e1,e2,h4,h5,hL]
   ·simp [af,aH,bG,atE,dB,h2,h3]
  ·simp [af,aH,bG,atE,dB,h2]
 ·cases y with
  | cons c y=>simp [af,aH,bG,atE,dB]
  | nil=>
   by_cases h6:lo < -1099511627776
   ·simp [af,aH,bG,atE,dB,h6]
   ·by_cases h7:hi<lo
    ·simp [af,aH,bG,atE,dB,h6,h7]
    ·by_cases h8:1099511627776<hi
     ·simp [af,aH,bG,atE,dB,h6,h7,h8]
     ·cases h4:zB n
      ·simp [af,aH,bG,atE,dB,e1,e2,h4,h6,h7,h8]
      ·cases h5:(Ey ⟨3,n,x,[],lo,hi⟩).all qg
       ·simp [h5] at hL;simp [af,aH,bG,atE,dB,e1,e2,h4,h5,hL,h6,h7,h8]
       ·simp [h5] at hL;simp [af,aH,bG,atE,dB,e1,e2,h4,h5,hL,h6,h7,h8]
end Go.Ai.Z
