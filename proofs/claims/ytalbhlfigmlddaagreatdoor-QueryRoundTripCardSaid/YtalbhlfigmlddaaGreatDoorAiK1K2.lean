/-
 Names: what the program's and the reference's functions on them answer.
-/
import Derived.Test.YtalbhlfigmlddaaGreatDoorAiC2
import Derived.Test.YtalbhlfigmlddaaGreatDoorAiSxD
set_option maxRecDepth 100000
set_option linter.unusedSimpArgs false
set_option linter.unusedVariables false
set_option linter.unusedSectionVars false
namespace Go.Ai.Z
def yj (b:UInt8):List UInt8→Option (List UInt8×List UInt8)
 | []=>none
 | x::r=>if x=b then some ([],r) else (yj b r).map fun p=>(x::p.1,p.2)
theorem TJ {b:UInt8}:∀{l:List UInt8},yj b l=none ↔ b ∉ l
 | []=>by simp [yj]
 | x::r=>by
  by_cases h:x=b
  ·simp [yj,h]
  ·have:=TJ (b:=b) (l:=r)
   simp [yj,h,this,Ne.symm h]
theorem zD {b:UInt8}:∀{l x y:List UInt8},yj b l=some (x,y)→l=x++b::y
 | [],_,_,h=>by simp [yj] at h
 | c::r,x,y,h=>by
  by_cases hc:c=b
  ·simp [yj,hc] at h;obtain ⟨rfl,rfl⟩:=h;simp [hc]
  ·simp [yj,hc] at h
   obtain ⟨p,q,rfl⟩:=h
   simp [zD q]
theorem index_none {b:UInt8}:∀{l:List UInt8},yj b l=none→Go.Lib.indexByte l b=-1
 | [],_=>rfl
 | c::r,h=>by
  by_cases hc:c=b
  ·simp [yj,hc] at h
  ·simp [yj,hc] at h
   simp [Go.Lib.indexByte,hc,index_none h]
theorem Ii {b:UInt8}:∀{l x y:List UInt8},yj b l=some (x,y)→Go.Lib.indexByte l b=x.length
 | [],_,_,h=>by simp [yj] at h
 | c::r,x,y,h=>by
  by_cases hc:c=b
  ·simp [yj,hc] at h;obtain ⟨rfl,rfl⟩:=h;simp [Go.Lib.indexByte,hc]
  ·simp [yj,hc] at h
   obtain ⟨p,q,rfl⟩:=h
   have:=Ii q
   have h1:¬((p.length:Int)=-1):=by omega
   simp [Go.Lib.indexByte,hc,this,h1]
theorem U2 (l:List UInt8) (b:UInt8) (s:St) (cx:Ctx):aj P0 (.fn (.func iV) [] []) [.s l,.s [b]] s cx=.ret (.i .i64 (Go.Lib.indexByte l b)) s:=
 vM (h:=Gt UG) rfl rfl
theorem JO (l:List UInt8) (b:UInt8) (hl:l.length≤1152921504606846976) (s:St) (cx:Ctx):aj P0 (.fn (.func gJ) [] []) [.s l,.s [b]] s cx=
  .ret (match yj b l with|some (x,y)=>.tu [.s x,.s y,.b true] | none=>.tu [.s l,.s [],.b false]) s:=by
 refine yM (by simp) ?_
 cases hc:yj b l with
 | none=>simp [af,gq,U2,index_none hc]
 | some p=>
  obtain ⟨x,y⟩:=p
  have hi:=Ii hc
  have he:=zD hc
  have hlen:l.length=x.length+(y.length+1):=by rw [he];simp
  have w1:IntKind.i64.wrap ((x.length:Int)+1)=(x.length:Int)+1:=w64 (by omega) (by omega)
  have e1:l.take x.length=x:=by rw [he];simp
  have e2:(l.drop (x.length+1)).take (l.length - (x.length+1))=y:=by
   rw [hlen,he,show x.length+1=(x++[b]).length from by simp,show x++b::y=(x++[b])++y from by simp,List.drop_left]
   exact List.take_of_length_le (by simp;omega)
  clear he
  have hn:((x.length:Int)+1).toNat=x.length+1:=by omega
  have h0:(0:Int)≤(x.length:Int)+1:=by omega
  have g1:x.length≤l.length:=by omega
  have g2:x.length+1≤l.length:=by omega
  simp [af,gq,U2,hi,w1,hn,h0,g1,g2,e1,e2]
theorem GR (l:List UInt8) (b:UInt8) (hl:l.length≤1152921504606846976) (s:St) (cx:Ctx):aj P0 (.fn (.func ug) [] []) [.s l,.s [b]] s cx=
  .ret (match yj b l with|some (x,y)=>.tu [.s x,.s y,.b true] | none=>.tu [.s l,.s [],.b false]) s:=by
 refine Qp (by simp) ?_
 have e1:=JO l b hl
 cases hc:yj b l with
 | none=>rw [hc] at e1;simp [af,rJ,e1]
 | some p=>obtain ⟨x,y⟩:=p;rw [hc] at e1;simp [af,rJ,e1]
def VZ (k:Int):Bool:=decide (97≤k) && decide (k≤122) || decide (65≤k) && decide (k≤90)
def afQ (k:Int):Bool:=VZ k || decide (48≤k) && decide (k≤57) || decide (k=95)
def V3 (b:UInt8):Bool:=VZ b.toNat
def Ws (b:UInt8):Bool:=afQ b.toNat
def Gq:List UInt8→Bool
 | []=>true
 | b::r=>Ws b && Gq r
theorem ZE:Gq []=true:=rfl
theorem OM (b:UInt8) (r:List UInt8):Gq (b::r)=(Ws b && Gq r):=rfl
def keywords:List (List UInt8):=
 [[97,110,100],[115,111,109,101],[105,110],[116,111],[110,111,116,104,105,110,103],[101,118,101,114,121,116,104,105,110,103],[111,110,101],[111,102],
  [111,112,101,110],[112,114,105,118,97,116,101],[115,117,98],[115,97,109,101],[100,105,115,106,111,105,110,116],[100,111,109,97,105,110],[114,111,108,101],
  [99,104,97,105,110],[114,101,102,108,101,120,105,118,101],[116,121,112,101],[108,105,110,107],[115,101,108,101,99,116],[119,104,101,114,101],[111,114]]
def kwS (l:List UInt8):Bool:=keywords.contains l
def Au (l:List UInt8):Bool:=(match l with | []=>false|b::_=>V3 b) && Gq l && !kwS l
def jU (l:List UInt8):Bool:=decide (l.length≤24) && (match yj 58 l with|some (x,y)=>Au x && Au y|none=>Au l)
def FN (l:List UInt8):Bool:=decide (2≤l.length) && decide (l.length≤24) && (match l with | []=>false|b::_=>decide ((b.toNat:Int)=95)) && Gq l
@[simp] theorem aa4 (k:Int) (s:St) (cx:Ctx):aj P0 (.fn (.func lU) [] []) [.i .u8 k] s cx=.ret (.b (VZ k)) s:=by
 refine Jq (by simp) ?_
 simp [af,qV,VZ]
 repeat' (split<;>simp only [dD,dF,dH]<;>simp [*])
theorem Ej (s:St) (cx:Ctx) (l:List UInt8) (hl:l.length≤1152921504606846976):∀(rest:List UInt8) (i:Nat),l.drop i=rest→
  ∃j:Int,bg (au P0.glob (aj P0) cx false pY) [6,7,8] [(6,.v (.sl (aB l))),(7,.v (.i .i64 l.length)),(8,.v (.i .i64 i))] s=
   if Gq rest=true then .exit 0 [(6,.v (.sl (aB l))),(7,.v (.i .i64 l.length)),(8,.v (.i .i64 j)),(9,.v (.b false))] s else .ret [(2,.v (.b false))] s
 | [],i,h=>by
  have h1:¬i<l.length:=Nat.not_lt.2 (drop_nil h)
  refine ⟨i,ai fun K hK=>?_⟩
  simp [pY,h1,ZE]
 | b::r,i,h=>by
  obtain ⟨h1,h2,h3,h4⟩:=drop_cons h
  have h5:=h4 h3
  have hb:(aB l)[i]?=some (.i .u8 b.toNat):=by simp [aB,h1]
  have hw:=wI (i:=i) (by omega)
  obtain ⟨j,ih⟩:=Ej s cx l hl r (i+1) h2
  refine ⟨j,ai fun K hK=>?_⟩
  rw [←hK,show ((i+1:Nat):Int)=(i:Int)+1 from rfl] at ih
  clear hK
  rcases Bool.eq_false_or_eq_true (Ws b) with hin|hin<;>rcases Bool.eq_false_or_eq_true (VZ b.toNat) with hlt|hlt <;>
  ·have hin':=hin
   simp [Ws,afQ,hlt] at hin'
   try simp [pY,h3,hb,OM,hin,hlt,hw,ih]
   repeat' (first | (split<;>(try simp only [dD,dF,dH,gW,gX])<;>(try simp [*])) | (simp only [dD,dF,dH,gW,gX]<;>(try simp [*]))|omega)
theorem EQ (l:List UInt8) (hl:l.length≤1152921504606846976) (s:St) (cx:Ctx):aj P0 (.fn (.func o7) [] []) [.s l] s cx=.ret (.b (Gq l)) s:=by
 refine NT (by simp) ?_
 obtain ⟨j,h⟩:=Ej s ⟨s.length,s.length⟩ l hl l 0 rfl
 have hb:(aB l).length=l.length:=by simp [aB]
 simp at h
 simp [af,uq,hb,h]
 repeat' (first | (split<;>(try simp only [dD,dF,dH,gW,gX])<;>(try simp [*])) | (simp only [dD,dF,dH,gW,gX]<;>(try simp [*]))|omega)
@[simp] theorem abh (l:List UInt8) (s:St) (cx:Ctx):aj P0 (.fn (.func mZ) [] []) [.s l] s cx=.ret (.b (kwS l)) s:=by
 refine Lr (by simp) ?_
 simp [af,sS]
 repeat' (first | (split<;>(try simp only [dD,dF,dH,gW,gX])<;>(try simp [*])) | (simp only [dD,dF,dH,gW,gX]<;>(try simp [*]))|omega)
 all_goals first|rfl|simp [kwS,keywords, *]
theorem zI (l:List UInt8) (hl:l.length≤1152921504606846976) (s:St) (cx:Ctx):aj P0 (.fn (.func o6) [] []) [.s l] s cx=.ret (.b (Au l)) s:=by
 refine NS (by simp) ?_
 cases l with
 | nil=>simp [af,qE,Au]
 | cons b r=>
  have e1:=EQ _ hl
  simp [af,qE,e1,Au,V3]
  repeat' (first | (split<;>(try simp only [dD,dF,dH,gW,gX])<;>(try simp [*])) | (simp only [dD,dF,dH,gW,gX]<;>(try simp [*]))|omega)
theorem zJ (l:List UInt8) (hl:l.length≤1152921504606846976) (s:St) (cx:Ctx):aj P0 (.fn (.func kD) [] []) [.s l] s cx=.ret (.b (FN l)) s:=by
 refine Gf (by simp) ?_
 cases l with
 | nil=>simp [af,lD,FN]
 | cons b r=>
  have e1:=EQ _ hl
  simp [af,lD,e1,FN]
  repeat' (first | (split<;>(try simp only [dD,dF,dH,gW,gX])<;>(try simp [*])) | (simp only [dD,dF,dH,gW,gX]<;>(try simp [*]))|omega)
@[simp] theorem abe (l:List UInt8) (s:St) (cx:Ctx):aj P0 (.fn (.func jJ) [] []) [.s l] s cx=.ret (.b (jU l)) s:=by
 refine La (by simp) ?_
 by_cases hl:l.length≤24
 ·have hn:¬((24:Int)<l.length):=by omega
  cases hc:yj 58 l with
  | none=>
   have hcut:=GR l 58 (by omega)
   rw [hc] at hcut
   simp only [] at hcut
   have e1:=zI l (by omega)
   simp [af,lS,hcut,hn,e1,jU,hc,hl]
   repeat' (first | (split<;>(try simp only [dD,dF,dH,gW,gX])<;>(try simp [*])) | (simp only [dD,dF,dH,gW,gX]<;>(try simp [*]))|omega)
  | some p=>
   obtain ⟨x,y⟩:=p
   have hcut:=GR l 58 (by omega)
   rw [hc] at hcut
   simp only [] at hcut
   have:=zD hc
   have hx:x.length≤1152921504606846976:=by have:=congrArg List.length this;simp at this;omega
   have hy:y.length≤1152921504606846976:=by have:=congrArg List.length this;simp at this;omega
   clear this
   have e1:=zI x hx
   have e2:=zI y hy
   simp [af,lS,hcut,hn,e1,e2,jU,hc,hl]
   repeat' (first | (split<;>(try simp only [dD,dF,dH,gW,gX])<;>(try simp [*])) | (simp only [dD,dF,dH,gW,gX]<;>(try simp [*]))|omega)
 ·have hn:(24:Int)<l.length:=by omega
  simp [af,lS,hn,jU,hl]
end Go.Ai.Z
namespace Go.Ai.Z
def BI (c:C):Bool:=
 let plain:=decide (c.lo=0) && decide (c.hi=0)
 if c.kind=1 then plain && decide (c.name=[]) && decide ((c.parts.length:Int)=0)
 else if c.kind=2 then plain && decide (c.name=[]) && decide ((c.parts.length:Int)=0)
 else if c.kind=3 then plain && decide ((c.parts.length:Int)=0)
 else if c.kind=4 then plain && decide ((c.parts.length:Int)=0)
 else if c.kind=5 then plain && decide (c.name=[]) && decide ((2:Int)≤c.parts.length) && decide ((c.parts.length:Int)≤8)
 else if c.kind=6 then plain && decide ((c.parts.length:Int)=1)
 else if c.kind=7 then decide ((c.parts.length:Int)=0) && decide (-1099511627776≤c.lo) && decide (c.lo≤c.hi) && decide (c.hi≤1099511627776)
 else false
def PO (c:C):Bool:=
 if c.kind=3 then jU c.name
 else if c.kind=6 then jU c.name
 else if c.kind=7 then jU c.name
 else if c.kind=4 then jU c.name || FN c.name
 else true
mutual
def y9:C→Int
 | .mk k n l h z ps=>if BI (.mk k n l h z ps)=false then 21 else if PO (.mk k n l h z ps)=false then 20 else Ae ps
def Ae:List C→Int
 | []=>0
 | p::r=>if y9 p=0 then Ae r else y9 p
end
theorem abm (c:C):y9 c=if BI c=false then 21 else if PO c=false then 20 else Ae c.parts:=by cases c;simp [y9]
def EL (c:C):Int:=if 8<CB c∨64<yA c then 21 else y9 c
end Go.Ai.Z
