/-
 Names: what the program's and the reference's functions on them answer.
-/
import Derived.Test.YtpnlnnfcaeednaaGreatDoorAiC2
import Derived.Test.YtpnlnnfcaeednaaGreatDoorAiSxD
set_option maxRecDepth 100000
set_option linter.unusedSimpArgs false
set_option linter.unusedVariables false
set_option linter.unusedSectionVars false
namespace Go.Ai.Z
def A8 (b:UInt8):List UInt8→Option (List UInt8×List UInt8)
 | []=>none
 | x::r=>if x=b then some ([],r) else (A8 b r).map fun p=>(x::p.1,p.2)
theorem KF {b:UInt8}:∀{l x y:List UInt8},A8 b l=some (x,y)→l=x++b::y
 | [],_,_,h=>by simp [A8] at h
 | c::r,x,y,h=>by
  by_cases hc:c=b
  ·simp [A8,hc] at h;obtain ⟨rfl,rfl⟩:=h;simp [hc]
  ·simp [A8,hc] at h
   obtain ⟨p,q,rfl⟩:=h
   simp [KF q]
theorem index_none {b:UInt8}:∀{l:List UInt8},A8 b l=none→Go.Lib.indexByte l b=-1
 | [],_=>rfl
 | c::r,h=>by
  by_cases hc:c=b
  ·simp [A8,hc] at h
  ·simp [A8,hc] at h
   simp [Go.Lib.indexByte,hc,index_none h]
theorem Q7 {b:UInt8}:∀{l x y:List UInt8},A8 b l=some (x,y)→Go.Lib.indexByte l b=x.length
 | [],_,_,h=>by simp [A8] at h
 | c::r,x,y,h=>by
  by_cases hc:c=b
  ·simp [A8,hc] at h;obtain ⟨rfl,rfl⟩:=h;simp [Go.Lib.indexByte,hc]
  ·simp [A8,hc] at h
   obtain ⟨p,q,rfl⟩:=h
   have:=Q7 q
   have h1:¬((p.length:Int)=-1):=by omega
   simp [Go.Lib.indexByte,hc,this,h1]
theorem aav (l:List UInt8) (b:UInt8) (s:St) (cx:Ctx):ah P0 (.fn (.func nS) [] []) [.s l,.s [b]] s cx=.ret (.i .i64 (Go.Lib.indexByte l b)) s:=
 xX (h:=Ig Vz) rfl rfl
theorem KO (l:List UInt8) (b:UInt8) (hl:l.length≤1152921504606846976) (s:St) (cx:Ctx):ah P0 (.fn (.func jr) [] []) [.s l,.s [b]] s cx=
  .ret (match A8 b l with|some (x,y)=>.tu [.s x,.s y,.b true] | none=>.tu [.s l,.s [],.b false]) s:=by
 refine zM (by simp) ?_
 cases hc:A8 b l with
 | none=>simp [af,jd,aav,index_none hc]
 | some p=>
  obtain ⟨x,y⟩:=p
  have hi:=Q7 hc
  have he:=KF hc
  have hlen:l.length=x.length+(y.length+1):=by rw [he];simp
  have w1:IntKind.i64.wrap ((x.length:Int)+1)=(x.length:Int)+1:=w64 (by omega) (by omega)
  have e1:l.take x.length=x:=by rw [he];simp
  have e2:(l.drop (x.length+1)).take (l.length - (x.length+1))=y:=by
   rw [hlen,he,show x.length+1=(x++[b]).length from by simp,show x++b::y=(x++[b])++y from by simp,List.drop_left]
   exact List.take_of_length_le (by simp;omega)
  clear he
  have hn:((x.length:Int)+1).toNat=x.length+1:=by omega
  have h0:(0:Int)≤(x.length:Int)+1:=by omega
  have g1:x.length≤l.length:=by omega
  have g2:x.length+1≤l.length:=by omega
  simp [af,jd,aav,hi,w1,hn,h0,g1,g2,e1,e2]
theorem Iz (l:List UInt8) (b:UInt8) (hl:l.length≤1152921504606846976) (s:St) (cx:Ctx):ah P0 (.fn (.func wz) [] []) [.s l,.s [b]] s cx=
  .ret (match A8 b l with|some (x,y)=>.tu [.s x,.s y,.b true] | none=>.tu [.s l,.s [],.b false]) s:=by
 refine Rl (by simp) ?_
 have e1:=KO l b hl
 cases hc:A8 b l with
 | none=>rw [hc] at e1;simp [af,uJ,e1]
 | some p=>obtain ⟨x,y⟩:=p;rw [hc] at e1;simp [af,uJ,e1]
def ac0 (k:Int):Bool:=decide (97≤k) && decide (k≤122) || decide (65≤k) && decide (k≤90)
def aiz (k:Int):Bool:=ac0 k || decide (48≤k) && decide (k≤57) || decide (k=95)
def ac1 (b:UInt8):Bool:=ac0 b.toNat
def abd (b:UInt8):Bool:=aiz b.toNat
def Ic:List UInt8→Bool
 | []=>true
 | b::r=>abd b && Ic r
theorem aaJ:Ic []=true:=rfl
theorem P5 (b:UInt8) (r:List UInt8):Ic (b::r)=(abd b && Ic r):=rfl
def keywords:List (List UInt8):=
 [[97,110,100],[115,111,109,101],[105,110],[116,111],[110,111,116,104,105,110,103],[101,118,101,114,121,116,104,105,110,103],[111,110,101],[111,102],
  [111,112,101,110],[112,114,105,118,97,116,101],[115,117,98],[115,97,109,101],[100,105,115,106,111,105,110,116],[100,111,109,97,105,110],[114,111,108,101],
  [99,104,97,105,110],[114,101,102,108,101,120,105,118,101],[116,121,112,101],[108,105,110,107],[115,101,108,101,99,116],[119,104,101,114,101],[111,114]]
def kwS (l:List UInt8):Bool:=keywords.contains l
def Fa (l:List UInt8):Bool:=(match l with | []=>false|b::_=>ac1 b) && Ic l && !kwS l
def lm (l:List UInt8):Bool:=decide (l.length≤24) && (match A8 58 l with|some (x,y)=>Fa x && Fa y|none=>Fa l)
def Qo (l:List UInt8):Bool:=decide (2≤l.length) && decide (l.length≤24) && (match l with | []=>false|b::_=>decide ((b.toNat:Int)=95)) && Ic l
@[simp] theorem abR (k:Int) (s:St) (cx:Ctx):ah P0 (.fn (.func oO) [] []) [.i .u8 k] s cx=.ret (.b (ac0 k)) s:=by
 refine Ko (by simp) ?_
 simp [af,uo,ac0]
 repeat' (split<;>simp only [kz,kC,kF]<;>simp [*])
theorem FQ (s:St) (cx:Ctx) (l:List UInt8) (hl:l.length≤1152921504606846976):∀(rest:List UInt8) (i:Nat),l.drop i=rest→
  ∃j:Int,eX (aC P0.glob (ah P0) cx false sG) [6,7,8] [(6,.v (.sl (aA l))),(7,.v (.i .i64 l.length)),(8,.v (.i .i64 i))] s=
   if Ic rest=true then .exit 0 [(6,.v (.sl (aA l))),(7,.v (.i .i64 l.length)),(8,.v (.i .i64 j)),(9,.v (.b false))] s else .ret [(2,.v (.b false))] s
 | [],i,h=>by
  have h1:¬i<l.length:=Nat.not_lt.2 (drop_nil h)
  refine ⟨i,ak fun K hK=>?_⟩
  simp [sG,h1,aaJ]
 | b::r,i,h=>by
  obtain ⟨h1,h2,h3,h4⟩:=drop_cons h
  have h5:=h4 h3
  have hb:(aA l)[i]?=some (.i .u8 b.toNat):=by simp [aA,h1]
  have hw:=wI (i:=i) (by omega)
  obtain ⟨j,ih⟩:=FQ s cx l hl r (i+1) h2
  refine ⟨j,ak fun K hK=>?_⟩
  rw [←hK,show ((i+1:Nat):Int)=(i:Int)+1 from rfl] at ih
  clear hK
  rcases Bool.eq_false_or_eq_true (abd b) with hin|hin<;>rcases Bool.eq_false_or_eq_true (ac0 b.toNat) with hlt|hlt <;>
  ·have hin':=hin
   simp [abd,aiz,hlt] at hin'
   try simp [sG,h3,hb,P5,hin,hlt,hw,ih]
   repeat' (first | (split<;>(try simp only [kz,kC,kF,pR,pU])<;>(try simp [*])) | (simp only [kz,kC,kF,pR,pU]<;>(try simp [*]))|omega)
theorem Gg (l:List UInt8) (hl:l.length≤1152921504606846976) (s:St) (cx:Ctx):ah P0 (.fn (.func rP) [] []) [.s l] s cx=.ret (.b (Ic l)) s:=by
 refine OQ (by simp) ?_
 obtain ⟨j,h⟩:=FQ s ⟨s.length,s.length⟩ l hl l 0 rfl
 have hb:(aA l).length=l.length:=by simp [aA]
 simp at h
 simp [af,wG,hb,h]
 repeat' (first | (split<;>(try simp only [kz,kC,kF,pR,pU])<;>(try simp [*])) | (simp only [kz,kC,kF,pR,pU]<;>(try simp [*]))|omega)
@[simp] theorem ab5 (l:List UInt8) (s:St) (cx:Ctx):ah P0 (.fn (.func qj) [] []) [.s l] s cx=.ret (.b (kwS l)) s:=by
 refine MI (by simp) ?_
 simp [af,vC]
 repeat' (first | (split<;>(try simp only [kz,kC,kF,pR,pU])<;>(try simp [*])) | (simp only [kz,kC,kF,pR,pU]<;>(try simp [*]))|omega)
 all_goals first|rfl|simp [kwS,keywords, *]
theorem AU (l:List UInt8) (hl:l.length≤1152921504606846976) (s:St) (cx:Ctx):ah P0 (.fn (.func rO) [] []) [.s l] s cx=.ret (.b (Fa l)) s:=by
 refine OO (by simp) ?_
 cases l with
 | nil=>simp [af,tq,Fa]
 | cons b r=>
  have e1:=Gg _ hl
  simp [af,tq,e1,Fa,ac1]
  repeat' (first | (split<;>(try simp only [kz,kC,kF,pR,pU])<;>(try simp [*])) | (simp only [kz,kC,kF,pR,pU]<;>(try simp [*]))|omega)
theorem wV (l:List UInt8) (hl:l.length≤1152921504606846976) (s:St) (cx:Ctx):ah P0 (.fn (.func mg) [] []) [.s l] s cx=.ret (.b (Qo l)) s:=by
 refine HY (by simp) ?_
 cases l with
 | nil=>simp [af,nV,Qo]
 | cons b r=>
  have e1:=Gg _ hl
  simp [af,nV,e1,Qo]
  repeat' (first | (split<;>(try simp only [kz,kC,kF,pR,pU])<;>(try simp [*])) | (simp only [kz,kC,kF,pR,pU]<;>(try simp [*]))|omega)
@[simp] theorem ab3 (l:List UInt8) (s:St) (cx:Ctx):ah P0 (.fn (.func lH) [] []) [.s l] s cx=.ret (.b (lm l)) s:=by
 refine Mc (by simp) ?_
 by_cases hl:l.length≤24
 ·have hn:¬((24:Int)<l.length):=by omega
  cases hc:A8 58 l with
  | none=>
   have hcut:=Iz l 58 (by omega)
   rw [hc] at hcut
   simp only [] at hcut
   have e1:=AU l (by omega)
   simp [af,oJ,hcut,hn,e1,lm,hc,hl]
   repeat' (first | (split<;>(try simp only [kz,kC,kF,pR,pU])<;>(try simp [*])) | (simp only [kz,kC,kF,pR,pU]<;>(try simp [*]))|omega)
  | some p=>
   obtain ⟨x,y⟩:=p
   have hcut:=Iz l 58 (by omega)
   rw [hc] at hcut
   simp only [] at hcut
   have:=KF hc
   have hx:x.length≤1152921504606846976:=by have:=congrArg List.length this;simp at this;omega
   have hy:y.length≤1152921504606846976:=by have:=congrArg List.length this;simp at this;omega
   clear this
   have e1:=AU x hx
   have e2:=AU y hy
   simp [af,oJ,hcut,hn,e1,e2,lm,hc,hl]
   repeat' (first | (split<;>(try simp only [kz,kC,kF,pR,pU])<;>(try simp [*])) | (simp only [kz,kC,kF,pR,pU]<;>(try simp [*]))|omega)
 ·have hn:(24:Int)<l.length:=by omega
  simp [af,oJ,hn,lm,hl]
end Go.Ai.Z
namespace Go.Ai.Z
theorem J4 (s:St) (cx:Ctx) (c:C) (hw:wC c≤100000)
  (ih:∀p∈c.parts,∀(s:St) (cx:Ctx),ah P0 (.fn (.func mV) [] []) [bD p] s cx=.ret (.i .i64 (dR p)) s):
  ∀(rest:List C) (i:Nat) (n:Nat),c.parts.drop i=rest→n+fC rest≤100000→i≤c.parts.length→
  eX (aC P0.glob (ah P0) cx false vk) [1,3,4] [(1,.bx (bD c).cells),(3,.v (.i .i64 n)),(4,.v (.i .i64 i))] s=
   .exit 0 [(1,.bx (bD c).cells),(3,.v (.i .i64 (n+fC rest:Nat))),(4,.v (.i .i64 c.parts.length)),(9,.v (.b false))] s
 | [],i,n,h,hn,hi=>by
  have h0:=drop_nil h
  obtain rfl:i=c.parts.length:=by omega
  refine ak fun K hK=>?_
  simp [vk,fC]
 | p::r,i,n,h,hn,hi=>by
  obtain ⟨h1,h2,h3,h4⟩:=drop_cons h
  have h5:=h4 h3
  have hp:p∈c.parts:=by rw [←h5];exact List.getElem_mem h3
  have hl:=yE c.parts
  rw [qm] at hw
  have hwi:=wI (i:=i) (by omega)
  simp only [fC] at hn
  have ih2:=J4 s cx c (by rw [qm];exact hw) ih r (i+1) (n+dR p) h2 (by omega) (by omega)
  refine ak fun K hK=>?_
  rw [←hK] at ih2
  have e1:=ih p hp
  clear hK h4 ih
  have w3:IntKind.i64.wrap ((n:Int)+dR p)=(n:Int)+dR p:=w64 (by omega) (by omega)
  simp at ih2
  simp [vk,h3,h5,w3,hwi,e1,ih2,fC]
  omega
theorem Ej:∀(c:C),wC c≤100000→∀(s:St) (cx:Ctx),ah P0 (.fn (.func mV) [] []) [bD c] s cx=.ret (.i .i64 (dR c)) s:=by
 refine C.ind' fun c ih hw s cx=>?_
 have hs:=WO c
 have hw':=hw
 rw [qm] at hw'
 rw [nT] at hs
 have h:=J4 s ⟨s.length,s.length⟩ c hw (fun p hp=>ih p hp (by have:=wM hp;omega)) c.parts 0 1 rfl (by omega) (by omega)
 refine Tc (by simp) ?_
 simp at h
 simp [af,yT,h,nT c]
def oV (c:C):Bool:=
 let plain:=decide (c.lo=0) && decide (c.hi=0)
 if c.kind=1 then plain && decide (c.name=[]) && decide ((c.parts.length:Int)=0)
 else if c.kind=2 then plain && decide (c.name=[]) && decide ((c.parts.length:Int)=0)
 else if c.kind=3 then plain && decide ((c.parts.length:Int)=0)
 else if c.kind=4 then plain && decide ((c.parts.length:Int)=0)
 else if c.kind=5 then plain && decide (c.name=[]) && decide ((2:Int)≤c.parts.length) && decide ((c.parts.length:Int)≤8)
 else if c.kind=6 then plain && decide ((c.parts.length:Int)=1)
 else if c.kind=7 then decide ((c.parts.length:Int)=0) && decide (-1099511627776≤c.lo) && decide (c.lo≤c.hi) && decide (c.hi≤1099511627776)
 else false
def xM (c:C):Bool:=
 if c.kind=3 then lm c.name
 else if c.kind=6 then lm c.name
 else if c.kind=7 then lm c.name
 else if c.kind=4 then lm c.name || Qo c.name
 else true
mutual
def iH:C→Int
 | .mk k n l h z ps=>if oV (.mk k n l h z ps)=false then 21 else if xM (.mk k n l h z ps)=false then 20 else qV ps
def qV:List C→Int
 | []=>0
 | p::r=>if iH p=0 then qV r else iH p
end
theorem BP (c:C):iH c=if oV c=false then 21 else if xM c=false then 20 else qV c.parts:=by cases c;simp [iH]
def jg (c:C):Int:=if 8<mW c∨64<dR c then 21 else iH c
end Go.Ai.Z
namespace Go.Ai.Z
def sJ (c:C):Int:=if oV c=false then 21 else if xM c=false then 20 else 0
theorem Y9:P0.glob BO=some [.i .i64 0,.i .i64 0,.i .i64 0,.b false,.i .i64 0,.i .i64 0,.i .i64 0,.b false,.i .i64 0,.i .i64 0,.i .i64 0,.b false,.i .i64 1,.i .i64 0,.i .i64 0,.b false,.i .i64 2,.i .i64 0,.i .i64 0,.b false,.i .i64 0,.i .i64 2,.i .i64 8,.b false,.i .i64 1,.i .i64 1,.i .i64 1,.b false,.i .i64 1,.i .i64 0,.i .i64 0,.b true]:=rfl
theorem Ia (c:C) (hn:c.name.length≤1152921504606846976) (s:St) (cx:Ctx):ah P0 (.fn (.func nZ) [] []) [bD c] s cx=.ret (.i .i64 (sJ c)) s:=by
 refine FY (by simp) ?_
 have e1:=wV c.name hn
 by_cases h0:c.kind<1
 ·have:oV c=false:=by simp [oV,show ¬c.kind=1 by omega,show ¬c.kind=2 by omega,show ¬c.kind=3 by omega,show ¬c.kind=4 by omega,show ¬c.kind=5 by omega,show ¬c.kind=6 by omega,show ¬c.kind=7 by omega]
  simp [af,kM,h0,sJ,this]
 by_cases h8:7<c.kind
 ·have:oV c=false:=by simp [oV,show ¬c.kind=1 by omega,show ¬c.kind=2 by omega,show ¬c.kind=3 by omega,show ¬c.kind=4 by omega,show ¬c.kind=5 by omega,show ¬c.kind=6 by omega,show ¬c.kind=7 by omega]
  simp [af,kM,h0,h8,sJ,this]
 have hk:c.kind=1∨c.kind=2∨c.kind=3∨c.kind=4∨c.kind=5∨c.kind=6∨c.kind=7:=by omega
 rcases hps:c.parts with _|⟨a,_|⟨b,r⟩⟩<;>rcases hk with hk|hk|hk|hk|hk|hk|hk
 all_goals
  clear h0 h8
  simp [af,kM,hk,Y9,sJ,oV,xM,hps]
  repeat' (first | (split<;>(try simp only [kz,kC,kF,pR,pU])<;>(try simp [*])) | (simp only [kz,kC,kF,pR,pU]<;>(try simp [*]))|omega)
end Go.Ai.Z
