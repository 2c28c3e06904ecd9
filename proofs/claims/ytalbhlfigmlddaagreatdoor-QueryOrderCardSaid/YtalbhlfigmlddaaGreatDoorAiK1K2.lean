/-
 Names: what the program's and the reference's functions on them answer.
-/
import Derived.Test.YtalbhlfigmlddaaGreatDoorAiC2
import Derived.Test.YtalbhlfigmlddaaGreatDoorAiSxD
set_option maxRecDepth 100000
set_option linter.unusedSimpArgs false
set_option linter.unusedVariables false
set_option linter.unusedSectionVars false
namespace Go.Ai.Z
def vF (b:UInt8):List UInt8→Option (List UInt8×List UInt8)
 | []=>none
 | x::r=>if x=b then some ([],r) else (vF b r).map fun p=>(x::p.1,p.2)
theorem IJ {b:UInt8}:∀{l x y:List UInt8},vF b l=some (x,y)→l=x++b::y
 | [],_,_,h=>by simp [vF] at h
 | c::r,x,y,h=>by
  by_cases hc:c=b
  ·simp [vF,hc] at h;obtain ⟨rfl,rfl⟩:=h;simp [hc]
  ·simp [vF,hc] at h
   obtain ⟨p,q,rfl⟩:=h
   simp [IJ q]
theorem index_none {b:UInt8}:∀{l:List UInt8},vF b l=none→Go.Lib.indexByte l b=-1
 | [],_=>rfl
 | c::r,h=>by
  by_cases hc:c=b
  ·simp [vF,hc] at h
  ·simp [vF,hc] at h
   simp [Go.Lib.indexByte,hc,index_none h]
theorem Ir {b:UInt8}:∀{l x y:List UInt8},vF b l=some (x,y)→Go.Lib.indexByte l b=x.length
 | [],_,_,h=>by simp [vF] at h
 | c::r,x,y,h=>by
  by_cases hc:c=b
  ·simp [vF,hc] at h;obtain ⟨rfl,rfl⟩:=h;simp [Go.Lib.indexByte,hc]
  ·simp [vF,hc] at h
   obtain ⟨p,q,rfl⟩:=h
   have:=Ir q
   have h1:¬((p.length:Int)=-1):=by omega
   simp [Go.Lib.indexByte,hc,this,h1]
theorem Pg (l:List UInt8) (b:UInt8) (s:St) (cx:Ctx):aH P0 (.fn (.func eH) [] []) [.s l,.s [b]] s cx=.ret (.i .i64 (Go.Lib.indexByte l b)) s:=
 DR (h:=JY KZ) rfl rfl
theorem DJ (l:List UInt8) (b:UInt8) (hl:l.length≤1152921504606846976) (s:St) (cx:Ctx):aH P0 (.fn (.func dP) [] []) [.s l,.s [b]] s cx=
  .ret (match vF b l with|some (x,y)=>.tu [.s x,.s y,.b true] | none=>.tu [.s l,.s [],.b false]) s:=by
 refine qR (by simp) ?_
 cases hc:vF b l with
 | none=>simp [au,dN,Pg,index_none hc]
 | some p=>
  obtain ⟨x,y⟩:=p
  have hi:=Ir hc
  have he:=IJ hc
  have hlen:l.length=x.length+(y.length+1):=by rw [he];simp
  have w1:IntKind.i64.wrap ((x.length:Int)+1)=(x.length:Int)+1:=w64 (by omega) (by omega)
  have e1:l.take x.length=x:=by rw [he];simp
  have e2:(l.drop (x.length+1)).take (l.length - (x.length+1))=y:=by
   rw [hlen,he,show x.length+1=(x++[b]).length from by simp,show x++b::y=(x++[b])++y from by simp,List.drop_left]
   exact List.take_of_length_le (by simp;omega)
  clear he
  have hn:((x.length:Int)+1).toNat=x.length+1:=by omega
  have h0:(0:Int)≤(x.length:Int)+1:=by omega
  have g1:x.length≤l.length:=by omega
  have g2:x.length+1≤l.length:=by omega
  simp [au,dN,Pg,hi,w1,hn,h0,g1,g2,e1,e2]
theorem Aq (l:List UInt8) (b:UInt8) (hl:l.length≤1152921504606846976) (s:St) (cx:Ctx):aH P0 (.fn (.func lS) [] []) [.s l,.s [b]] s cx=
  .ret (match vF b l with|some (x,y)=>.tu [.s x,.s y,.b true] | none=>.tu [.s l,.s [],.b false]) s:=by
 refine IA (by simp) ?_
 have e1:=DJ l b hl
 cases hc:vF b l with
 | none=>rw [hc] at e1;simp [au,kM,e1]
 | some p=>obtain ⟨x,y⟩:=p;rw [hc] at e1;simp [au,kM,e1]
def Sm (k:Int):Bool:=decide (97≤k) && decide (k≤122) || decide (65≤k) && decide (k≤90)
def Ym (k:Int):Bool:=Sm k || decide (48≤k) && decide (k≤57) || decide (k=95)
def Yg (b:UInt8):Bool:=Sm b.toNat
def SG (b:UInt8):Bool:=Ym b.toNat
def ER:List UInt8→Bool
 | []=>true
 | b::r=>SG b && ER r
theorem Py:ER []=true:=rfl
theorem NK (b:UInt8) (r:List UInt8):ER (b::r)=(SG b && ER r):=rfl
def keywords:List (List UInt8):=
 [[97,110,100],[115,111,109,101],[105,110],[116,111],[110,111,116,104,105,110,103],[101,118,101,114,121,116,104,105,110,103],[111,110,101],[111,102],
  [111,112,101,110],[112,114,105,118,97,116,101],[115,117,98],[115,97,109,101],[100,105,115,106,111,105,110,116],[100,111,109,97,105,110],[114,111,108,101],
  [99,104,97,105,110],[114,101,102,108,101,120,105,118,101],[116,121,112,101],[108,105,110,107],[115,101,108,101,99,116],[119,104,101,114,101],[111,114]]
def kwS (l:List UInt8):Bool:=keywords.contains l
def JJ (l:List UInt8):Bool:=(match l with | []=>false|b::_=>Yg b) && ER l && !kwS l
def yc (l:List UInt8):Bool:=decide (l.length≤24) && (match vF 58 l with|some (x,y)=>JJ x && JJ y|none=>JJ l)
def ZG (l:List UInt8):Bool:=decide (2≤l.length) && decide (l.length≤24) && (match l with | []=>false|b::_=>decide ((b.toNat:Int)=95)) && ER l
@[simp] theorem QV (k:Int) (s:St) (cx:Ctx):aH P0 (.fn (.func iF) [] []) [.i .u8 k] s cx=.ret (.b (Sm k)) s:=by
 refine Dh (by simp) ?_
 simp [au,kz,Sm]
 repeat' (split<;>simp only [lY,lZ,mr]<;>simp [*])
theorem yG (s:St) (cx:Ctx) (l:List UInt8) (hl:l.length≤1152921504606846976):∀(rest:List UInt8) (i:Nat),l.drop i=rest→
  ∃j:Int,rQ (aA P0.glob (aH P0) cx false jJ) [6,7,8] [(6,.v (.sl (bV l))),(7,.v (.i .i64 l.length)),(8,.v (.i .i64 i))] s=
   if ER rest=true then .exit 0 [(6,.v (.sl (bV l))),(7,.v (.i .i64 l.length)),(8,.v (.i .i64 j)),(9,.v (.b false))] s else .ret [(2,.v (.b false))] s
 | [],i,h=>by
  have h1:¬i<l.length:=Nat.not_lt.2 (drop_nil h)
  refine ⟨i,gG fun K hK=>?_⟩
  simp [jJ,h1,Py]
 | b::r,i,h=>by
  obtain ⟨h1,h2,h3,h4⟩:=drop_cons h
  have h5:=h4 h3
  have hb:(bV l)[i]?=some (.i .u8 b.toNat):=by simp [bV,h1]
  have hw:=wI (i:=i) (by omega)
  obtain ⟨j,ih⟩:=yG s cx l hl r (i+1) h2
  refine ⟨j,gG fun K hK=>?_⟩
  rw [←hK,show ((i+1:Nat):Int)=(i:Int)+1 from rfl] at ih
  clear hK
  rcases Bool.eq_false_or_eq_true (SG b) with hin|hin<;>rcases Bool.eq_false_or_eq_true (Sm b.toNat) with hlt|hlt <;>
  ·have hin':=hin
   simp [SG,Ym,hlt] at hin'
   try simp [jJ,h3,hb,NK,hin,hlt,hw,ih]
   repeat' (first | (split<;>(try simp only [lY,lZ,mr,sW,sZ])<;>(try simp [*])) | (simp only [lY,lZ,mr,sW,sZ]<;>(try simp [*]))|omega)
theorem IY (l:List UInt8) (hl:l.length≤1152921504606846976) (s:St) (cx:Ctx):aH P0 (.fn (.func jB) [] []) [.s l] s cx=.ret (.b (ER l)) s:=by
 refine Gg (by simp) ?_
 obtain ⟨j,h⟩:=yG s ⟨s.length,s.length⟩ l hl l 0 rfl
 have hb:(bV l).length=l.length:=by simp [bV]
 simp at h
 simp [au,lU,hb,h]
 repeat' (first | (split<;>(try simp only [lY,lZ,mr,sW,sZ])<;>(try simp [*])) | (simp only [lY,lZ,mr,sW,sZ]<;>(try simp [*]))|omega)
@[simp] theorem Q9 (l:List UInt8) (s:St) (cx:Ctx):aH P0 (.fn (.func iO) [] []) [.s l] s cx=.ret (.b (kwS l)) s:=by
 refine EC (by simp) ?_
 simp [au,lg]
 repeat' (first | (split<;>(try simp only [lY,lZ,mr,sW,sZ])<;>(try simp [*])) | (simp only [lY,lZ,mr,sW,sZ]<;>(try simp [*]))|omega)
 all_goals first|rfl|simp [kwS,keywords, *]
theorem sJ (l:List UInt8) (hl:l.length≤1152921504606846976) (s:St) (cx:Ctx):aH P0 (.fn (.func jA) [] []) [.s l] s cx=.ret (.b (JJ l)) s:=by
 refine Gf (by simp) ?_
 cases l with
 | nil=>simp [au,jU,JJ]
 | cons b r=>
  have e1:=IY _ hl
  simp [au,jU,e1,JJ,Yg]
  repeat' (first | (split<;>(try simp only [lY,lZ,mr,sW,sZ])<;>(try simp [*])) | (simp only [lY,lZ,mr,sW,sZ]<;>(try simp [*]))|omega)
@[simp] theorem Q7 (l:List UInt8) (s:St) (cx:Ctx):aH P0 (.fn (.func fK) [] []) [.s l] s cx=.ret (.b (yc l)) s:=by
 refine Ew (by simp) ?_
 by_cases hl:l.length≤24
 ·have hn:¬((24:Int)<l.length):=by omega
  cases hc:vF 58 l with
  | none=>
   have hcut:=Aq l 58 (by omega)
   rw [hc] at hcut
   simp only [] at hcut
   have e1:=sJ l (by omega)
   simp [au,iC,hcut,hn,e1,yc,hc,hl]
   repeat' (first | (split<;>(try simp only [lY,lZ,mr,sW,sZ])<;>(try simp [*])) | (simp only [lY,lZ,mr,sW,sZ]<;>(try simp [*]))|omega)
  | some p=>
   obtain ⟨x,y⟩:=p
   have hcut:=Aq l 58 (by omega)
   rw [hc] at hcut
   simp only [] at hcut
   have:=IJ hc
   have hx:x.length≤1152921504606846976:=by have:=congrArg List.length this;simp at this;omega
   have hy:y.length≤1152921504606846976:=by have:=congrArg List.length this;simp at this;omega
   clear this
   have e1:=sJ x hx
   have e2:=sJ y hy
   simp [au,iC,hcut,hn,e1,e2,yc,hc,hl]
   repeat' (first | (split<;>(try simp only [lY,lZ,mr,sW,sZ])<;>(try simp [*])) | (simp only [lY,lZ,mr,sW,sZ]<;>(try simp [*]))|omega)
 ·have hn:(24:Int)<l.length:=by omega
  simp [au,iC,hn,yc,hl]
end Go.Ai.Z
namespace Go.Ai.Z
def VA (c:C):Bool:=
 let plain:=decide (c.lo=0) && decide (c.hi=0)
 if c.kind=1 then plain && decide (c.name=[]) && decide ((c.parts.length:Int)=0)
 else if c.kind=2 then plain && decide (c.name=[]) && decide ((c.parts.length:Int)=0)
 else if c.kind=3 then plain && decide ((c.parts.length:Int)=0)
 else if c.kind=4 then plain && decide ((c.parts.length:Int)=0)
 else if c.kind=5 then plain && decide (c.name=[]) && decide ((2:Int)≤c.parts.length) && decide ((c.parts.length:Int)≤8)
 else if c.kind=6 then plain && decide ((c.parts.length:Int)=1)
 else if c.kind=7 then decide ((c.parts.length:Int)=0) && decide (-1099511627776≤c.lo) && decide (c.lo≤c.hi) && decide (c.hi≤1099511627776)
 else false
def VQ (c:C):Bool:=
 if c.kind=3 then yc c.name
 else if c.kind=6 then yc c.name
 else if c.kind=7 then yc c.name
 else if c.kind=4 then yc c.name || ZG c.name
 else true
mutual
def U4:C→Int
 | .mk k n l h z ps=>if VA (.mk k n l h z ps)=false then 21 else if VQ (.mk k n l h z ps)=false then 20 else Ri ps
def Ri:List C→Int
 | []=>0
 | p::r=>if U4 p=0 then Ri r else U4 p
end
end Go.Ai.Z
