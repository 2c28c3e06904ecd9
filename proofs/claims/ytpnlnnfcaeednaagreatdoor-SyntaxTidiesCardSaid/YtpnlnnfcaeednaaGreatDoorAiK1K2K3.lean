/-
 Names: what the program's and the reference's functions on them answer.
-/
import Derived.Test.YtpnlnnfcaeednaaGreatDoorAiC2
import Derived.Test.YtpnlnnfcaeednaaGreatDoorAiSxD
set_option maxRecDepth 100000
set_option linter.unusedSimpArgs false
set_option linter.unusedVariables false
set_option linter.unusedSectionVars false
namespace Go.Ai.Z
def AZ (b:UInt8):List UInt8→Option (List UInt8×List UInt8)
 | []=>none
 | x::r=>if x=b then some ([],r) else (AZ b r).map fun p=>(x::p.1,p.2)
theorem KN {b:UInt8}:∀{l x y:List UInt8},AZ b l=some (x,y)→l=x++b::y
 | [],_,_,h=>by simp [AZ] at h
 | c::r,x,y,h=>by
  by_cases hc:c=b
  ·simp [AZ,hc] at h;obtain ⟨rfl,rfl⟩:=h;simp [hc]
  ·simp [AZ,hc] at h
   obtain ⟨p,q,rfl⟩:=h
   simp [KN q]
theorem index_none {b:UInt8}:∀{l:List UInt8},AZ b l=none→Go.Lib.indexByte l b=-1
 | [],_=>rfl
 | c::r,h=>by
  by_cases hc:c=b
  ·simp [AZ,hc] at h
  ·simp [AZ,hc] at h
   simp [Go.Lib.indexByte,hc,index_none h]
theorem QS {b:UInt8}:∀{l x y:List UInt8},AZ b l=some (x,y)→Go.Lib.indexByte l b=x.length
 | [],_,_,h=>by simp [AZ] at h
 | c::r,x,y,h=>by
  by_cases hc:c=b
  ·simp [AZ,hc] at h;obtain ⟨rfl,rfl⟩:=h;simp [Go.Lib.indexByte,hc]
  ·simp [AZ,hc] at h
   obtain ⟨p,q,rfl⟩:=h
   have:=QS q
   have h1:¬((p.length:Int)=-1):=by omega
   simp [Go.Lib.indexByte,hc,this,h1]
theorem aad (l:List UInt8) (b:UInt8) (s:St) (cx:Ctx):ah P0 (.fn (.func nR) [] []) [.s l,.s [b]] s cx=.ret (.i .i64 (Go.Lib.indexByte l b)) s:=
 xO (h:=Il Vm) rfl rfl
theorem KU (l:List UInt8) (b:UInt8) (hl:l.length≤1152921504606846976) (s:St) (cx:Ctx):ah P0 (.fn (.func jA) [] []) [.s l,.s [b]] s cx=
  .ret (match AZ b l with|some (x,y)=>.tu [.s x,.s y,.b true] | none=>.tu [.s l,.s [],.b false]) s:=by
 refine zI (by simp) ?_
 cases hc:AZ b l with
 | none=>simp [af,jh,aad,index_none hc]
 | some p=>
  obtain ⟨x,y⟩:=p
  have hi:=QS hc
  have he:=KN hc
  have hlen:l.length=x.length+(y.length+1):=by rw [he];simp
  have w1:IntKind.i64.wrap ((x.length:Int)+1)=(x.length:Int)+1:=w64 (by omega) (by omega)
  have e1:l.take x.length=x:=by rw [he];simp
  have e2:(l.drop (x.length+1)).take (l.length - (x.length+1))=y:=by
   rw [hlen,he,show x.length+1=(x++[b]).length from by simp,show x++b::y=(x++[b])++y from by simp,List.drop_left]
   exact List.take_of_length_le (by simp;omega)
  clear he
  have hn:((x.length:Int)+1).toNat=x.length+1:=by omega
  have h0:(0:Int)≤(x.length:Int)+1:=by omega
  have g1:x.length≤l.length:=by omega
  have g2:x.length+1≤l.length:=by omega
  simp [af,jh,aad,hi,w1,hn,h0,g1,g2,e1,e2]
theorem IG (l:List UInt8) (b:UInt8) (hl:l.length≤1152921504606846976) (s:St) (cx:Ctx):ah P0 (.fn (.func vY) [] []) [.s l,.s [b]] s cx=
  .ret (match AZ b l with|some (x,y)=>.tu [.s x,.s y,.b true] | none=>.tu [.s l,.s [],.b false]) s:=by
 refine QZ (by simp) ?_
 have e1:=KU l b hl
 cases hc:AZ b l with
 | none=>rw [hc] at e1;simp [af,uw,e1]
 | some p=>obtain ⟨x,y⟩:=p;rw [hc] at e1;simp [af,uw,e1]
def acG (k:Int):Bool:=decide (97≤k) && decide (k≤122) || decide (65≤k) && decide (k≤90)
def aij (k:Int):Bool:=acG k || decide (48≤k) && decide (k≤57) || decide (k=95)
def acH (b:UInt8):Bool:=acG b.toNat
def aaP (b:UInt8):Bool:=aij b.toNat
def Ij:List UInt8→Bool
 | []=>true
 | b::r=>aaP b && Ij r
theorem aaq:Ij []=true:=rfl
theorem PO (b:UInt8) (r:List UInt8):Ij (b::r)=(aaP b && Ij r):=rfl
def keywords:List (List UInt8):=
 [[97,110,100],[115,111,109,101],[105,110],[116,111],[110,111,116,104,105,110,103],[101,118,101,114,121,116,104,105,110,103],[111,110,101],[111,102],
  [111,112,101,110],[112,114,105,118,97,116,101],[115,117,98],[115,97,109,101],[100,105,115,106,111,105,110,116],[100,111,109,97,105,110],[114,111,108,101],
  [99,104,97,105,110],[114,101,102,108,101,120,105,118,101],[116,121,112,101],[108,105,110,107],[115,101,108,101,99,116],[119,104,101,114,101],[111,114]]
def kwS (l:List UInt8):Bool:=keywords.contains l
def Fe (l:List UInt8):Bool:=(match l with | []=>false|b::_=>acH b) && Ij l && !kwS l
def lq (l:List UInt8):Bool:=decide (l.length≤24) && (match AZ 58 l with|some (x,y)=>Fe x && Fe y|none=>Fe l)
def Qg (l:List UInt8):Bool:=decide (2≤l.length) && decide (l.length≤24) && (match l with | []=>false|b::_=>decide ((b.toNat:Int)=95)) && Ij l
@[simp] theorem abt (k:Int) (s:St) (cx:Ctx):ah P0 (.fn (.func oJ) [] []) [.i .u8 k] s cx=.ret (.b (acG k)) s:=by
 refine Kv (by simp) ?_
 simp [af,tZ,acG]
 repeat' (split<;>simp only [kD,kE,jW]<;>simp [*])
theorem FW (s:St) (cx:Ctx) (l:List UInt8) (hl:l.length≤1152921504606846976):∀(rest:List UInt8) (i:Nat),l.drop i=rest→
  ∃j:Int,fC (aB P0.glob (ah P0) cx false su) [6,7,8] [(6,.v (.sl (aF l))),(7,.v (.i .i64 l.length)),(8,.v (.i .i64 i))] s=
   if Ij rest=true then .exit 0 [(6,.v (.sl (aF l))),(7,.v (.i .i64 l.length)),(8,.v (.i .i64 j)),(9,.v (.b false))] s else .ret [(2,.v (.b false))] s
 | [],i,h=>by
  have h1:¬i<l.length:=Nat.not_lt.2 (drop_nil h)
  refine ⟨i,ak fun K hK=>?_⟩
  simp [su,h1,aaq]
 | b::r,i,h=>by
  obtain ⟨h1,h2,h3,h4⟩:=drop_cons h
  have h5:=h4 h3
  have hb:(aF l)[i]?=some (.i .u8 b.toNat):=by simp [aF,h1]
  have hw:=wI (i:=i) (by omega)
  obtain ⟨j,ih⟩:=FW s cx l hl r (i+1) h2
  refine ⟨j,ak fun K hK=>?_⟩
  rw [←hK,show ((i+1:Nat):Int)=(i:Int)+1 from rfl] at ih
  clear hK
  rcases Bool.eq_false_or_eq_true (aaP b) with hin|hin<;>rcases Bool.eq_false_or_eq_true (acG b.toNat) with hlt|hlt <;>
  ·have hin':=hin
   simp [aaP,aij,hlt] at hin'
   try simp [su,h3,hb,PO,hin,hlt,hw,ih]
   repeat' (first | (split<;>(try simp only [kD,kE,jW,pO,pR])<;>(try simp [*])) | (simp only [kD,kE,jW,pO,pR]<;>(try simp [*]))|omega)
theorem Gm (l:List UInt8) (hl:l.length≤1152921504606846976) (s:St) (cx:Ctx):ah P0 (.fn (.func rJ) [] []) [.s l] s cx=.ret (.b (Ij l)) s:=by
 refine OM (by simp) ?_
 obtain ⟨j,h⟩:=FW s ⟨s.length,s.length⟩ l hl l 0 rfl
 have hb:(aF l).length=l.length:=by simp [aF]
 simp at h
 simp [af,wB,hb,h]
 repeat' (first | (split<;>(try simp only [kD,kE,jW,pO,pR])<;>(try simp [*])) | (simp only [kD,kE,jW,pO,pR]<;>(try simp [*]))|omega)
@[simp] theorem abG (l:List UInt8) (s:St) (cx:Ctx):ah P0 (.fn (.func qf) [] []) [.s l] s cx=.ret (.b (kwS l)) s:=by
 refine MB (by simp) ?_
 simp [af,ve]
 repeat' (first | (split<;>(try simp only [kD,kE,jW,pO,pR])<;>(try simp [*])) | (simp only [kD,kE,jW,pO,pR]<;>(try simp [*]))|omega)
 all_goals first|rfl|simp [kwS,keywords, *]
theorem AQ (l:List UInt8) (hl:l.length≤1152921504606846976) (s:St) (cx:Ctx):ah P0 (.fn (.func rH) [] []) [.s l] s cx=.ret (.b (Fe l)) s:=by
 refine OL (by simp) ?_
 cases l with
 | nil=>simp [af,sV,Fe]
 | cons b r=>
  have e1:=Gm _ hl
  simp [af,sV,e1,Fe,acH]
  repeat' (first | (split<;>(try simp only [kD,kE,jW,pO,pR])<;>(try simp [*])) | (simp only [kD,kE,jW,pO,pR]<;>(try simp [*]))|omega)
theorem wQ (l:List UInt8) (hl:l.length≤1152921504606846976) (s:St) (cx:Ctx):ah P0 (.fn (.func mD) [] []) [.s l] s cx=.ret (.b (Qg l)) s:=by
 refine Ia (by simp) ?_
 cases l with
 | nil=>simp [af,nT,Qg]
 | cons b r=>
  have e1:=Gm _ hl
  simp [af,nT,e1,Qg]
  repeat' (first | (split<;>(try simp only [kD,kE,jW,pO,pR])<;>(try simp [*])) | (simp only [kD,kE,jW,pO,pR]<;>(try simp [*]))|omega)
@[simp] theorem abD (l:List UInt8) (s:St) (cx:Ctx):ah P0 (.fn (.func lJ) [] []) [.s l] s cx=.ret (.b (lq l)) s:=by
 refine L6 (by simp) ?_
 by_cases hl:l.length≤24
 ·have hn:¬((24:Int)<l.length):=by omega
  cases hc:AZ 58 l with
  | none=>
   have hcut:=IG l 58 (by omega)
   rw [hc] at hcut
   simp only [] at hcut
   have e1:=AQ l (by omega)
   simp [af,oC,hcut,hn,e1,lq,hc,hl]
   repeat' (first | (split<;>(try simp only [kD,kE,jW,pO,pR])<;>(try simp [*])) | (simp only [kD,kE,jW,pO,pR]<;>(try simp [*]))|omega)
  | some p=>
   obtain ⟨x,y⟩:=p
   have hcut:=IG l 58 (by omega)
   rw [hc] at hcut
   simp only [] at hcut
   have:=KN hc
   have hx:x.length≤1152921504606846976:=by have:=congrArg List.length this;simp at this;omega
   have hy:y.length≤1152921504606846976:=by have:=congrArg List.length this;simp at this;omega
   clear this
   have e1:=AQ x hx
   have e2:=AQ y hy
   simp [af,oC,hcut,hn,e1,e2,lq,hc,hl]
   repeat' (first | (split<;>(try simp only [kD,kE,jW,pO,pR])<;>(try simp [*])) | (simp only [kD,kE,jW,pO,pR]<;>(try simp [*]))|omega)
 ·have hn:(24:Int)<l.length:=by omega
  simp [af,oC,hn,lq,hl]
end Go.Ai.Z
namespace Go.Ai.Z
def oO (c:C):Bool:=
 let plain:=decide (c.lo=0) && decide (c.hi=0)
 if c.kind=1 then plain && decide (c.name=[]) && decide ((c.parts.length:Int)=0)
 else if c.kind=2 then plain && decide (c.name=[]) && decide ((c.parts.length:Int)=0)
 else if c.kind=3 then plain && decide ((c.parts.length:Int)=0)
 else if c.kind=4 then plain && decide ((c.parts.length:Int)=0)
 else if c.kind=5 then plain && decide (c.name=[]) && decide ((2:Int)≤c.parts.length) && decide ((c.parts.length:Int)≤8)
 else if c.kind=6 then plain && decide ((c.parts.length:Int)=1)
 else if c.kind=7 then decide ((c.parts.length:Int)=0) && decide (-1099511627776≤c.lo) && decide (c.lo≤c.hi) && decide (c.hi≤1099511627776)
 else false
def xH (c:C):Bool:=
 if c.kind=3 then lq c.name
 else if c.kind=6 then lq c.name
 else if c.kind=7 then lq c.name
 else if c.kind=4 then lq c.name || Qg c.name
 else true
mutual
def iJ:C→Int
 | .mk k n l h z ps=>if oO (.mk k n l h z ps)=false then 21 else if xH (.mk k n l h z ps)=false then 20 else qP ps
def qP:List C→Int
 | []=>0
 | p::r=>if iJ p=0 then qP r else iJ p
end
theorem BP (c:C):iJ c=if oO c=false then 21 else if xH c=false then 20 else qP c.parts:=by cases c;simp [iJ]
def jl (c:C):Int:=if 8<mY c∨64<dH c then 21 else iJ c
end Go.Ai.Z
namespace Go.Ai.Z
def sF (c:C):Int:=if oO c=false then 21 else if xH c=false then 20 else 0
theorem YT:P0.glob BO=some [.i .i64 0,.i .i64 0,.i .i64 0,.b false,.i .i64 0,.i .i64 0,.i .i64 0,.b false,.i .i64 0,.i .i64 0,.i .i64 0,.b false,.i .i64 1,.i .i64 0,.i .i64 0,.b false,.i .i64 2,.i .i64 0,.i .i64 0,.b false,.i .i64 0,.i .i64 2,.i .i64 8,.b false,.i .i64 1,.i .i64 1,.i .i64 1,.b false,.i .i64 1,.i .i64 0,.i .i64 0,.b true]:=rfl
theorem Ih (c:C) (hn:c.name.length≤1152921504606846976) (s:St) (cx:Ctx):ah P0 (.fn (.func nV) [] []) [bF c] s cx=.ret (.i .i64 (sF c)) s:=by
 refine F7 (by simp) ?_
 have e1:=wQ c.name hn
 by_cases h0:c.kind<1
 ·have:oO c=false:=by simp [oO,show ¬c.kind=1 by omega,show ¬c.kind=2 by omega,show ¬c.kind=3 by omega,show ¬c.kind=4 by omega,show ¬c.kind=5 by omega,show ¬c.kind=6 by omega,show ¬c.kind=7 by omega]
  simp [af,kQ,h0,sF,this]
 by_cases h8:7<c.kind
 ·have:oO c=false:=by simp [oO,show ¬c.kind=1 by omega,show ¬c.kind=2 by omega,show ¬c.kind=3 by omega,show ¬c.kind=4 by omega,show ¬c.kind=5 by omega,show ¬c.kind=6 by omega,show ¬c.kind=7 by omega]
  simp [af,kQ,h0,h8,sF,this]
 have hk:c.kind=1∨c.kind=2∨c.kind=3∨c.kind=4∨c.kind=5∨c.kind=6∨c.kind=7:=by omega
 rcases hps:c.parts with _|⟨a,_|⟨b,r⟩⟩<;>rcases hk with hk|hk|hk|hk|hk|hk|hk
 all_goals
  clear h0 h8
  simp [af,kQ,hk,YT,sF,oO,xH,hps]
  repeat' (first | (split<;>(try simp only [kD,kE,jW,pO,pR])<;>(try simp [*])) | (simp only [kD,kE,jW,pO,pR]<;>(try simp [*]))|omega)
end Go.Ai.Z
