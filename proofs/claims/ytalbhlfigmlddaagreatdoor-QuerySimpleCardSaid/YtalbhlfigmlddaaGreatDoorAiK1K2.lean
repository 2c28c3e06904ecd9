/-
 Names: what the program's and the reference's functions on them answer.
-/
import Derived.Test.YtalbhlfigmlddaaGreatDoorAiC2
import Derived.Test.YtalbhlfigmlddaaGreatDoorAiSxD
set_option maxRecDepth 100000
set_option linter.unusedSimpArgs false
set_option linter.unusedVariables false
set_option linter.unusedSectionVars false
namespace Go.Ai.Z
def yI (b:UInt8):List UInt8→Option (List UInt8×List UInt8)
 | []=>none
 | x::r=>if x=b then some ([],r) else (yI b r).map fun p=>(x::p.1,p.2)
theorem MG {b:UInt8}:∀{l x y:List UInt8},yI b l=some (x,y)→l=x++b::y
 | [],_,_,h=>by simp [yI] at h
 | c::r,x,y,h=>by
  by_cases hc:c=b
  ·simp [yI,hc] at h;obtain ⟨rfl,rfl⟩:=h;simp [hc]
  ·simp [yI,hc] at h
   obtain ⟨p,q,rfl⟩:=h
   simp [MG q]
theorem index_none {b:UInt8}:∀{l:List UInt8},yI b l=none→Go.Lib.indexByte l b=-1
 | [],_=>rfl
 | c::r,h=>by
  by_cases hc:c=b
  ·simp [yI,hc] at h
  ·simp [yI,hc] at h
   simp [Go.Lib.indexByte,hc,index_none h]
theorem LQ {b:UInt8}:∀{l x y:List UInt8},yI b l=some (x,y)→Go.Lib.indexByte l b=x.length
 | [],_,_,h=>by simp [yI] at h
 | c::r,x,y,h=>by
  by_cases hc:c=b
  ·simp [yI,hc] at h;obtain ⟨rfl,rfl⟩:=h;simp [Go.Lib.indexByte,hc]
  ·simp [yI,hc] at h
   obtain ⟨p,q,rfl⟩:=h
   have:=LQ q
   have h1:¬((p.length:Int)=-1):=by omega
   simp [Go.Lib.indexByte,hc,this,h1]
theorem Uo (l:List UInt8) (b:UInt8) (s:St) (cx:Ctx):aj P0 (.fn (.func gJ) [] []) [.s l,.s [b]] s cx=.ret (.i .i64 (Go.Lib.indexByte l b)) s:=
 Gs (h:=Ol Pn) rfl rfl
theorem Gg (l:List UInt8) (b:UInt8) (hl:l.length≤1152921504606846976) (s:St) (cx:Ctx):aj P0 (.fn (.func fF) [] []) [.s l,.s [b]] s cx=
  .ret (match yI b l with|some (x,y)=>.tu [.s x,.s y,.b true] | none=>.tu [.s l,.s [],.b false]) s:=by
 refine vS (by simp) ?_
 cases hc:yI b l with
 | none=>simp [ah,fA,Uo,index_none hc]
 | some p=>
  obtain ⟨x,y⟩:=p
  have hi:=LQ hc
  have he:=MG hc
  have hlen:l.length=x.length+(y.length+1):=by rw [he];simp
  have w1:IntKind.i64.wrap ((x.length:Int)+1)=(x.length:Int)+1:=w64 (by omega) (by omega)
  have e1:l.take x.length=x:=by rw [he];simp
  have e2:(l.drop (x.length+1)).take (l.length - (x.length+1))=y:=by
   rw [hlen,he,show x.length+1=(x++[b]).length from by simp,show x++b::y=(x++[b])++y from by simp,List.drop_left]
   exact List.take_of_length_le (by simp;omega)
  clear he
  have hn:((x.length:Int)+1).toNat=x.length+1:=by omega
  have h0:(0:Int)≤(x.length:Int)+1:=by omega
  have g1:x.length≤l.length:=by omega
  have g2:x.length+1≤l.length:=by omega
  simp [ah,fA,Uo,hi,w1,hn,h0,g1,g2,e1,e2]
theorem DK (l:List UInt8) (b:UInt8) (hl:l.length≤1152921504606846976) (s:St) (cx:Ctx):aj P0 (.fn (.func qB) [] []) [.s l,.s [b]] s cx=
  .ret (match yI b l with|some (x,y)=>.tu [.s x,.s y,.b true] | none=>.tu [.s l,.s [],.b false]) s:=by
 refine LZ (by simp) ?_
 have e1:=Gg l b hl
 cases hc:yI b l with
 | none=>rw [hc] at e1;simp [ah,oQ,e1]
 | some p=>obtain ⟨x,y⟩:=p;rw [hc] at e1;simp [ah,oQ,e1]
def Xb (k:Int):Bool:=decide (97≤k) && decide (k≤122) || decide (65≤k) && decide (k≤90)
def acI (k:Int):Bool:=Xb k || decide (48≤k) && decide (k≤57) || decide (k=95)
def acC (b:UInt8):Bool:=Xb b.toNat
def Xm (b:UInt8):Bool:=acI b.toNat
def IB:List UInt8→Bool
 | []=>true
 | b::r=>Xm b && IB r
theorem UC:IB []=true:=rfl
theorem RP (b:UInt8) (r:List UInt8):IB (b::r)=(Xm b && IB r):=rfl
def keywords:List (List UInt8):=
 [[97,110,100],[115,111,109,101],[105,110],[116,111],[110,111,116,104,105,110,103],[101,118,101,114,121,116,104,105,110,103],[111,110,101],[111,102],
  [111,112,101,110],[112,114,105,118,97,116,101],[115,117,98],[115,97,109,101],[100,105,115,106,111,105,110,116],[100,111,109,97,105,110],[114,111,108,101],
  [99,104,97,105,110],[114,101,102,108,101,120,105,118,101],[116,121,112,101],[108,105,110,107],[115,101,108,101,99,116],[119,104,101,114,101],[111,114]]
def kwS (l:List UInt8):Bool:=keywords.contains l
def NZ (l:List UInt8):Bool:=(match l with | []=>false|b::_=>acC b) && IB l && !kwS l
def lU (l:List UInt8):Bool:=decide (l.length≤24) && (match yI 58 l with|some (x,y)=>NZ x && NZ y|none=>NZ l)
def GL (l:List UInt8):Bool:=decide (2≤l.length) && decide (l.length≤24) && (match l with | []=>false|b::_=>decide ((b.toNat:Int)=95)) && IB l
@[simp] theorem VS (k:Int) (s:St) (cx:Ctx):aj P0 (.fn (.func jU) [] []) [.i .u8 k] s cx=.ret (.b (Xb k)) s:=by
 refine FO (by simp) ?_
 simp [ah,oG,Xb]
 repeat' (split<;>simp only [dQ,dR,dS]<;>simp [*])
theorem AZ (s:St) (cx:Ctx) (l:List UInt8) (hl:l.length≤1152921504606846976):∀(rest:List UInt8) (i:Nat),l.drop i=rest→
  ∃j:Int,dZ (ak P0.glob (aj P0) cx false nC) [6,7,8] [(6,.v (.sl (dI l))),(7,.v (.i .i64 l.length)),(8,.v (.i .i64 i))] s=
   if IB rest=true then .exit 0 [(6,.v (.sl (dI l))),(7,.v (.i .i64 l.length)),(8,.v (.i .i64 j)),(9,.v (.b false))] s else .ret [(2,.v (.b false))] s
 | [],i,h=>by
  have h1:¬i<l.length:=Nat.not_lt.2 (drop_nil h)
  refine ⟨i,ai fun K hK=>?_⟩
  simp [nC,h1,UC]
 | b::r,i,h=>by
  obtain ⟨h1,h2,h3,h4⟩:=drop_cons h
  have h5:=h4 h3
  have hb:(dI l)[i]?=some (.i .u8 b.toNat):=by simp [dI,h1]
  have hw:=wI (i:=i) (by omega)
  obtain ⟨j,ih⟩:=AZ s cx l hl r (i+1) h2
  refine ⟨j,ai fun K hK=>?_⟩
  rw [←hK,show ((i+1:Nat):Int)=(i:Int)+1 from rfl] at ih
  clear hK
  rcases Bool.eq_false_or_eq_true (Xm b) with hin|hin<;>rcases Bool.eq_false_or_eq_true (Xb b.toNat) with hlt|hlt <;>
  ·have hin':=hin
   simp [Xm,acI,hlt] at hin'
   try simp [nC,h3,hb,RP,hin,hlt,hw,ih]
   repeat' (first | (split<;>(try simp only [dQ,dR,dS,iO,iP])<;>(try simp [*])) | (simp only [dQ,dR,dS,iO,iP]<;>(try simp [*]))|omega)
theorem BF (l:List UInt8) (hl:l.length≤1152921504606846976) (s:St) (cx:Ctx):aj P0 (.fn (.func mG) [] []) [.s l] s cx=.ret (.b (IB l)) s:=by
 refine JG (by simp) ?_
 obtain ⟨j,h⟩:=AZ s ⟨s.length,s.length⟩ l hl l 0 rfl
 have hb:(dI l).length=l.length:=by simp [dI]
 simp at h
 simp [ah,qH,hb,h]
 repeat' (first | (split<;>(try simp only [dQ,dR,dS,iO,iP])<;>(try simp [*])) | (simp only [dQ,dR,dS,iO,iP]<;>(try simp [*]))|omega)
@[simp] theorem V5 (l:List UInt8) (s:St) (cx:Ctx):aj P0 (.fn (.func kL) [] []) [.s l] s cx=.ret (.b (kwS l)) s:=by
 refine Ib (by simp) ?_
 simp [ah,pV]
 repeat' (first | (split<;>(try simp only [dQ,dR,dS,iO,iP])<;>(try simp [*])) | (simp only [dQ,dR,dS,iO,iP]<;>(try simp [*]))|omega)
 all_goals first|rfl|simp [kwS,keywords, *]
theorem wW (l:List UInt8) (hl:l.length≤1152921504606846976) (s:St) (cx:Ctx):aj P0 (.fn (.func mF) [] []) [.s l] s cx=.ret (.b (NZ l)) s:=by
 refine JF (by simp) ?_
 cases l with
 | nil=>simp [ah,nT,NZ]
 | cons b r=>
  have e1:=BF _ hl
  simp [ah,nT,e1,NZ,acC]
  repeat' (first | (split<;>(try simp only [dQ,dR,dS,iO,iP])<;>(try simp [*])) | (simp only [dQ,dR,dS,iO,iP]<;>(try simp [*]))|omega)
theorem wX (l:List UInt8) (hl:l.length≤1152921504606846976) (s:St) (cx:Ctx):aj P0 (.fn (.func jd) [] []) [.s l] s cx=.ret (.b (GL l)) s:=by
 refine Dc (by simp) ?_
 cases l with
 | nil=>simp [ah,jH,GL]
 | cons b r=>
  have e1:=BF _ hl
  simp [ah,jH,e1,GL]
  repeat' (first | (split<;>(try simp only [dQ,dR,dS,iO,iP])<;>(try simp [*])) | (simp only [dQ,dR,dS,iO,iP]<;>(try simp [*]))|omega)
@[simp] theorem VZ (l:List UInt8) (s:St) (cx:Ctx):aj P0 (.fn (.func iQ) [] []) [.s l] s cx=.ret (.b (lU l)) s:=by
 refine HY (by simp) ?_
 by_cases hl:l.length≤24
 ·have hn:¬((24:Int)<l.length):=by omega
  cases hc:yI 58 l with
  | none=>
   have hcut:=DK l 58 (by omega)
   rw [hc] at hcut
   simp only [] at hcut
   have e1:=wW l (by omega)
   simp [ah,jS,hcut,hn,e1,lU,hc,hl]
   repeat' (first | (split<;>(try simp only [dQ,dR,dS,iO,iP])<;>(try simp [*])) | (simp only [dQ,dR,dS,iO,iP]<;>(try simp [*]))|omega)
  | some p=>
   obtain ⟨x,y⟩:=p
   have hcut:=DK l 58 (by omega)
   rw [hc] at hcut
   simp only [] at hcut
   have:=MG hc
   have hx:x.length≤1152921504606846976:=by have:=congrArg List.length this;simp at this;omega
   have hy:y.length≤1152921504606846976:=by have:=congrArg List.length this;simp at this;omega
   clear this
   have e1:=wW x hx
   have e2:=wW y hy
   simp [ah,jS,hcut,hn,e1,e2,lU,hc,hl]
   repeat' (first | (split<;>(try simp only [dQ,dR,dS,iO,iP])<;>(try simp [*])) | (simp only [dQ,dR,dS,iO,iP]<;>(try simp [*]))|omega)
 ·have hn:(24:Int)<l.length:=by omega
  simp [ah,jS,hn,lU,hl]
end Go.Ai.Z
namespace Go.Ai.Z
def yT (c:C):Bool:=
 let plain:=decide (c.lo=0) && decide (c.hi=0)
 if c.kind=1 then plain && decide (c.name=[]) && decide ((c.parts.length:Int)=0)
 else if c.kind=2 then plain && decide (c.name=[]) && decide ((c.parts.length:Int)=0)
 else if c.kind=3 then plain && decide ((c.parts.length:Int)=0)
 else if c.kind=4 then plain && decide ((c.parts.length:Int)=0)
 else if c.kind=5 then plain && decide (c.name=[]) && decide ((2:Int)≤c.parts.length) && decide ((c.parts.length:Int)≤8)
 else if c.kind=6 then plain && decide ((c.parts.length:Int)=1)
 else if c.kind=7 then decide ((c.parts.length:Int)=0) && decide (-1099511627776≤c.lo) && decide (c.lo≤c.hi) && decide (c.hi≤1099511627776)
 else false
def Ld (c:C):Bool:=
 if c.kind=3 then lU c.name
 else if c.kind=6 then lU c.name
 else if c.kind=7 then lU c.name
 else if c.kind=4 then lU c.name || GL c.name
 else true
mutual
def wH:C→Int
 | .mk k n l h z ps=>if yT (.mk k n l h z ps)=false then 21 else if Ld (.mk k n l h z ps)=false then 20 else xM ps
def xM:List C→Int
 | []=>0
 | p::r=>if wH p=0 then xM r else wH p
end
theorem V8 (c:C):wH c=if yT c=false then 21 else if Ld c=false then 20 else xM c.parts:=by cases c;simp [wH]
def Bv (c:C):Int:=if 8<zo c∨64<vG c then 21 else wH c
end Go.Ai.Z
