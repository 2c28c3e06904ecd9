/-
 Names: what the program's and the reference's functions on them answer.
-/
import Derived.Test.YtalbhlfigmlddaaGreatDoorAiC2
import Derived.Test.YtalbhlfigmlddaaGreatDoorAiSxD
set_option maxRecDepth 100000
set_option linter.unusedSimpArgs false
set_option linter.unusedVariables false
set_option linter.unusedSectionVars false
namespace Go.Ai.Z
def zy (b:UInt8):List UInt8→Option (List UInt8×List UInt8)
 | []=>none
 | x::r=>if x=b then some ([],r) else (zy b r).map fun p=>(x::p.1,p.2)
theorem G7 {b:UInt8}:∀{l x y:List UInt8},zy b l=some (x,y)→l=x++b::y
 | [],_,_,h=>by simp [zy] at h
 | c::r,x,y,h=>by
  by_cases hc:c=b
  ·simp [zy,hc] at h;obtain ⟨rfl,rfl⟩:=h;simp [hc]
  ·simp [zy,hc] at h
   obtain ⟨p,q,rfl⟩:=h
   simp [G7 q]
theorem index_none {b:UInt8}:∀{l:List UInt8},zy b l=none→Go.Lib.indexByte l b=-1
 | [],_=>rfl
 | c::r,h=>by
  by_cases hc:c=b
  ·simp [zy,hc] at h
  ·simp [zy,hc] at h
   simp [Go.Lib.indexByte,hc,index_none h]
theorem NE {b:UInt8}:∀{l x y:List UInt8},zy b l=some (x,y)→Go.Lib.indexByte l b=x.length
 | [],_,_,h=>by simp [zy] at h
 | c::r,x,y,h=>by
  by_cases hc:c=b
  ·simp [zy,hc] at h;obtain ⟨rfl,rfl⟩:=h;simp [Go.Lib.indexByte,hc]
  ·simp [zy,hc] at h
   obtain ⟨p,q,rfl⟩:=h
   have:=NE q
   have h1:¬((p.length:Int)=-1):=by omega
   simp [Go.Lib.indexByte,hc,this,h1]
theorem VO (l:List UInt8) (b:UInt8) (s:St) (cx:Ctx):aj P0 (.fn (.func iE) [] []) [.s l,.s [b]] s cx=.ret (.i .i64 (Go.Lib.indexByte l b)) s:=
 H7 (h:=PL QT) rfl rfl
theorem Hl (l:List UInt8) (b:UInt8) (hl:l.length≤1152921504606846976) (s:St) (cx:Ctx):aj P0 (.fn (.func fZ) [] []) [.s l,.s [b]] s cx=
  .ret (match zy b l with|some (x,y)=>.tu [.s x,.s y,.b true] | none=>.tu [.s l,.s [],.b false]) s:=by
 refine wW (by simp) ?_
 cases hc:zy b l with
 | none=>simp [ah,fK,VO,index_none hc]
 | some p=>
  obtain ⟨x,y⟩:=p
  have hi:=NE hc
  have he:=G7 hc
  have hlen:l.length=x.length+(y.length+1):=by rw [he];simp
  have w1:IntKind.i64.wrap ((x.length:Int)+1)=(x.length:Int)+1:=w64 (by omega) (by omega)
  have e1:l.take x.length=x:=by rw [he];simp
  have e2:(l.drop (x.length+1)).take (l.length - (x.length+1))=y:=by
   rw [hlen,he,show x.length+1=(x++[b]).length from by simp,show x++b::y=(x++[b])++y from by simp,List.drop_left]
   exact List.take_of_length_le (by simp;omega)
  clear he
  have hn:((x.length:Int)+1).toNat=x.length+1:=by omega
  have h0:(0:Int)≤(x.length:Int)+1:=by omega
  have g1:x.length≤l.length:=by omega
  have g2:x.length+1≤l.length:=by omega
  simp [ah,fK,VO,hi,w1,hn,h0,g1,g2,e1,e2]
theorem Em (l:List UInt8) (b:UInt8) (hl:l.length≤1152921504606846976) (s:St) (cx:Ctx):aj P0 (.fn (.func qY) [] []) [.s l,.s [b]] s cx=
  .ret (match zy b l with|some (x,y)=>.tu [.s x,.s y,.b true] | none=>.tu [.s l,.s [],.b false]) s:=by
 refine NM (by simp) ?_
 have e1:=Hl l b hl
 cases hc:zy b l with
 | none=>rw [hc] at e1;simp [ah,pY,e1]
 | some p=>obtain ⟨x,y⟩:=p;rw [hc] at e1;simp [ah,pY,e1]
def YQ (k:Int):Bool:=decide (97≤k) && decide (k≤122) || decide (65≤k) && decide (k≤90)
def aeu (k:Int):Bool:=YQ k || decide (48≤k) && decide (k≤57) || decide (k=95)
def aap (b:UInt8):Bool:=YQ b.toNat
def Y2 (b:UInt8):Bool:=aeu b.toNat
def Jz:List UInt8→Bool
 | []=>true
 | b::r=>Y2 b && Jz r
theorem V5:Jz []=true:=rfl
theorem Uj (b:UInt8) (r:List UInt8):Jz (b::r)=(Y2 b && Jz r):=rfl
def keywords:List (List UInt8):=
 [[97,110,100],[115,111,109,101],[105,110],[116,111],[110,111,116,104,105,110,103],[101,118,101,114,121,116,104,105,110,103],[111,110,101],[111,102],
  [111,112,101,110],[112,114,105,118,97,116,101],[115,117,98],[115,97,109,101],[100,105,115,106,111,105,110,116],[100,111,109,97,105,110],[114,111,108,101],
  [99,104,97,105,110],[114,101,102,108,101,120,105,118,101],[116,121,112,101],[108,105,110,107],[115,101,108,101,99,116],[119,104,101,114,101],[111,114]]
def kwS (l:List UInt8):Bool:=keywords.contains l
def D6 (l:List UInt8):Bool:=(match l with | []=>false|b::_=>aap b) && Jz l && !kwS l
def lY (l:List UInt8):Bool:=decide (l.length≤24) && (match zy 58 l with|some (x,y)=>D6 x && D6 y|none=>D6 l)
def FY (l:List UInt8):Bool:=decide (2≤l.length) && decide (l.length≤24) && (match l with | []=>false|b::_=>decide ((b.toNat:Int)=95)) && Jz l
@[simp] theorem XO (k:Int) (s:St) (cx:Ctx):aj P0 (.fn (.func kM) [] []) [.i .u8 k] s cx=.ret (.b (YQ k)) s:=by
 refine Gy (by simp) ?_
 simp [ah,pI,YQ]
 repeat' (split<;>simp only [dW,dX,dY]<;>simp [*])
theorem BO (s:St) (cx:Ctx) (l:List UInt8) (hl:l.length≤1152921504606846976):∀(rest:List UInt8) (i:Nat),l.drop i=rest→
  ∃j:Int,dZ (ak P0.glob (aj P0) cx false nZ) [6,7,8] [(6,.v (.sl (dU l))),(7,.v (.i .i64 l.length)),(8,.v (.i .i64 i))] s=
   if Jz rest=true then .exit 0 [(6,.v (.sl (dU l))),(7,.v (.i .i64 l.length)),(8,.v (.i .i64 j)),(9,.v (.b false))] s else .ret [(2,.v (.b false))] s
 | [],i,h=>by
  have h1:¬i<l.length:=Nat.not_lt.2 (drop_nil h)
  refine ⟨i,ai fun K hK=>?_⟩
  simp [nZ,h1,V5]
 | b::r,i,h=>by
  obtain ⟨h1,h2,h3,h4⟩:=drop_cons h
  have h5:=h4 h3
  have hb:(dU l)[i]?=some (.i .u8 b.toNat):=by simp [dU,h1]
  have hw:=wI (i:=i) (by omega)
  obtain ⟨j,ih⟩:=BO s cx l hl r (i+1) h2
  refine ⟨j,ai fun K hK=>?_⟩
  rw [←hK,show ((i+1:Nat):Int)=(i:Int)+1 from rfl] at ih
  clear hK
  rcases Bool.eq_false_or_eq_true (Y2 b) with hin|hin<;>rcases Bool.eq_false_or_eq_true (YQ b.toNat) with hlt|hlt <;>
  ·have hin':=hin
   simp [Y2,aeu,hlt] at hin'
   try simp [nZ,h3,hb,Uj,hin,hlt,hw,ih]
   repeat' (first | (split<;>(try simp only [dW,dX,dY,iK,iL])<;>(try simp [*])) | (simp only [dW,dX,dY,iK,iL]<;>(try simp [*]))|omega)
theorem CU (l:List UInt8) (hl:l.length≤1152921504606846976) (s:St) (cx:Ctx):aj P0 (.fn (.func nI) [] []) [.s l] s cx=.ret (.b (Jz l)) s:=by
 refine KN (by simp) ?_
 obtain ⟨j,h⟩:=BO s ⟨s.length,s.length⟩ l hl l 0 rfl
 have hb:(dU l).length=l.length:=by simp [dU]
 simp at h
 simp [ah,rE,hb,h]
 repeat' (first | (split<;>(try simp only [dW,dX,dY,iK,iL])<;>(try simp [*])) | (simp only [dW,dX,dY,iK,iL]<;>(try simp [*]))|omega)
@[simp] theorem X0 (l:List UInt8) (s:St) (cx:Ctx):aj P0 (.fn (.func lm) [] []) [.s l] s cx=.ret (.b (kwS l)) s:=by
 refine Jc (by simp) ?_
 simp [ah,qI]
 repeat' (first | (split<;>(try simp only [dW,dX,dY,iK,iL])<;>(try simp [*])) | (simp only [dW,dX,dY,iK,iL]<;>(try simp [*]))|omega)
 all_goals first|rfl|simp [kwS,keywords, *]
theorem x9 (l:List UInt8) (hl:l.length≤1152921504606846976) (s:St) (cx:Ctx):aj P0 (.fn (.func nH) [] []) [.s l] s cx=.ret (.b (D6 l)) s:=by
 refine KL (by simp) ?_
 cases l with
 | nil=>simp [ah,oO,D6]
 | cons b r=>
  have e1:=CU _ hl
  simp [ah,oO,e1,D6,aap]
  repeat' (first | (split<;>(try simp only [dW,dX,dY,iK,iL])<;>(try simp [*])) | (simp only [dW,dX,dY,iK,iL]<;>(try simp [*]))|omega)
theorem yc (l:List UInt8) (hl:l.length≤1152921504606846976) (s:St) (cx:Ctx):aj P0 (.fn (.func jv) [] []) [.s l] s cx=.ret (.b (FY l)) s:=by
 refine DU (by simp) ?_
 cases l with
 | nil=>simp [ah,jU,FY]
 | cons b r=>
  have e1:=CU _ hl
  simp [ah,jU,e1,FY]
  repeat' (first | (split<;>(try simp only [dW,dX,dY,iK,iL])<;>(try simp [*])) | (simp only [dW,dX,dY,iK,iL]<;>(try simp [*]))|omega)
@[simp] theorem XW (l:List UInt8) (s:St) (cx:Ctx):aj P0 (.fn (.func jd) [] []) [.s l] s cx=.ret (.b (lY l)) s:=by
 refine IZ (by simp) ?_
 by_cases hl:l.length≤24
 ·have hn:¬((24:Int)<l.length):=by omega
  cases hc:zy 58 l with
  | none=>
   have hcut:=Em l 58 (by omega)
   rw [hc] at hcut
   simp only [] at hcut
   have e1:=x9 l (by omega)
   simp [ah,kJ,hcut,hn,e1,lY,hc,hl]
   repeat' (first | (split<;>(try simp only [dW,dX,dY,iK,iL])<;>(try simp [*])) | (simp only [dW,dX,dY,iK,iL]<;>(try simp [*]))|omega)
  | some p=>
   obtain ⟨x,y⟩:=p
   have hcut:=Em l 58 (by omega)
   rw [hc] at hcut
   simp only [] at hcut
   have:=G7 hc
   have hx:x.length≤1152921504606846976:=by have:=congrArg List.length this;simp at this;omega
   have hy:y.length≤1152921504606846976:=by have:=congrArg List.length this;simp at this;omega
   clear this
   have e1:=x9 x hx
   have e2:=x9 y hy
   simp [ah,kJ,hcut,hn,e1,e2,lY,hc,hl]
   repeat' (first | (split<;>(try simp only [dW,dX,dY,iK,iL])<;>(try simp [*])) | (simp only [dW,dX,dY,iK,iL]<;>(try simp [*]))|omega)
 ·have hn:(24:Int)<l.length:=by omega
  simp [ah,kJ,hn,lY,hl]
end Go.Ai.Z
namespace Go.Ai.Z
def zK (c:C):Bool:=
 let plain:=decide (c.lo=0) && decide (c.hi=0)
 if c.kind=1 then plain && decide (c.name=[]) && decide ((c.parts.length:Int)=0)
 else if c.kind=2 then plain && decide (c.name=[]) && decide ((c.parts.length:Int)=0)
 else if c.kind=3 then plain && decide ((c.parts.length:Int)=0)
 else if c.kind=4 then plain && decide ((c.parts.length:Int)=0)
 else if c.kind=5 then plain && decide (c.name=[]) && decide ((2:Int)≤c.parts.length) && decide ((c.parts.length:Int)≤8)
 else if c.kind=6 then plain && decide ((c.parts.length:Int)=1)
 else if c.kind=7 then decide ((c.parts.length:Int)=0) && decide (-1099511627776≤c.lo) && decide (c.lo≤c.hi) && decide (c.hi≤1099511627776)
 else false
def MW (c:C):Bool:=
 if c.kind=3 then lY c.name
 else if c.kind=6 then lY c.name
 else if c.kind=7 then lY c.name
 else if c.kind=4 then lY c.name || FY c.name
 else true
mutual
def xI:C→Int
 | .mk k n l h z ps=>if zK (.mk k n l h z ps)=false then 21 else if MW (.mk k n l h z ps)=false then 20 else yI ps
def yI:List C→Int
 | []=>0
 | p::r=>if xI p=0 then yI r else xI p
end
theorem X9 (c:C):xI c=if zK c=false then 21 else if MW c=false then 20 else yI c.parts:=by cases c;simp [xI]
def CG (c:C):Int:=if 8<Aa c∨64<wH c then 21 else xI c
end Go.Ai.Z
