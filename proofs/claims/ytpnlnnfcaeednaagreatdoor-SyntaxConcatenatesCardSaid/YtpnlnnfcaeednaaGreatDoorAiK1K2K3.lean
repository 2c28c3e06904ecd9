/-
 Names: what the program's and the reference's functions on them answer.
-/
import Derived.Test.YtpnlnnfcaeednaaGreatDoorAiC2
import Derived.Test.YtpnlnnfcaeednaaGreatDoorAiSxD
set_option maxRecDepth 100000
set_option linter.unusedSimpArgs false
set_option linter.unusedVariables false
set_option linter.unusedSectionVars false
namespace Go.Ai.Z
def A7 (b:UInt8):List UInt8→Option (List UInt8×List UInt8)
 | []=>none
 | x::r=>if x=b then some ([],r) else (A7 b r).map fun p=>(x::p.1,p.2)
theorem KI {b:UInt8}:∀{l x y:List UInt8},A7 b l=some (x,y)→l=x++b::y
 | [],_,_,h=>by simp [A7] at h
 | c::r,x,y,h=>by
  by_cases hc:c=b
  ·simp [A7,hc] at h;obtain ⟨rfl,rfl⟩:=h;simp [hc]
  ·simp [A7,hc] at h
   obtain ⟨p,q,rfl⟩:=h
   simp [KI q]
theorem index_none {b:UInt8}:∀{l:List UInt8},A7 b l=none→Go.Lib.indexByte l b=-1
 | [],_=>rfl
 | c::r,h=>by
  by_cases hc:c=b
  ·simp [A7,hc] at h
  ·simp [A7,hc] at h
   simp [Go.Lib.indexByte,hc,index_none h]
theorem Ro {b:UInt8}:∀{l x y:List UInt8},A7 b l=some (x,y)→Go.Lib.indexByte l b=x.length
 | [],_,_,h=>by simp [A7] at h
 | c::r,x,y,h=>by
  by_cases hc:c=b
  ·simp [A7,hc] at h;obtain ⟨rfl,rfl⟩:=h;simp [Go.Lib.indexByte,hc]
  ·simp [A7,hc] at h
   obtain ⟨p,q,rfl⟩:=h
   have:=Ro q
   have h1:¬((p.length:Int)=-1):=by omega
   simp [Go.Lib.indexByte,hc,this,h1]
theorem aav (l:List UInt8) (b:UInt8) (s:St) (cx:Ctx):ah P0 (.fn (.func nU) [] []) [.s l,.s [b]] s cx=.ret (.i .i64 (Go.Lib.indexByte l b)) s:=
 xX (h:=Ib VG) rfl rfl
theorem KQ (l:List UInt8) (b:UInt8) (hl:l.length≤1152921504606846976) (s:St) (cx:Ctx):ah P0 (.fn (.func jA) [] []) [.s l,.s [b]] s cx=
  .ret (match A7 b l with|some (x,y)=>.tu [.s x,.s y,.b true] | none=>.tu [.s l,.s [],.b false]) s:=by
 refine zL (by simp) ?_
 cases hc:A7 b l with
 | none=>simp [af,jh,aav,index_none hc]
 | some p=>
  obtain ⟨x,y⟩:=p
  have hi:=Ro hc
  have he:=KI hc
  have hlen:l.length=x.length+(y.length+1):=by rw [he];simp
  have w1:IntKind.i64.wrap ((x.length:Int)+1)=(x.length:Int)+1:=w64 (by omega) (by omega)
  have e1:l.take x.length=x:=by rw [he];simp
  have e2:(l.drop (x.length+1)).take (l.length - (x.length+1))=y:=by
   rw [hlen,he,show x.length+1=(x++[b]).length from by simp,show x++b::y=(x++[b])++y from by simp,List.drop_left]
   exact List.take_of_length_le (by simp;omega)
  clear he
  have hn:((x.length:Int)+1).toNat=x.length+1:=by omega
  have h0:(0:Int)≤(x.length:Int)+1:=by omega
  have g1:x.length≤l.length:=by omega
  have g2:x.length+1≤l.length:=by omega
  simp [af,jh,aav,hi,w1,hn,h0,g1,g2,e1,e2]
theorem Iu (l:List UInt8) (b:UInt8) (hl:l.length≤1152921504606846976) (s:St) (cx:Ctx):ah P0 (.fn (.func wu) [] []) [.s l,.s [b]] s cx=
  .ret (match A7 b l with|some (x,y)=>.tu [.s x,.s y,.b true] | none=>.tu [.s l,.s [],.b false]) s:=by
 refine RD (by simp) ?_
 have e1:=KQ l b hl
 cases hc:A7 b l with
 | none=>rw [hc] at e1;simp [af,uG,e1]
 | some p=>obtain ⟨x,y⟩:=p;rw [hc] at e1;simp [af,uG,e1]
def acY (k:Int):Bool:=decide (97≤k) && decide (k≤122) || decide (65≤k) && decide (k≤90)
def aiB (k:Int):Bool:=acY k || decide (48≤k) && decide (k≤57) || decide (k=95)
def acZ (b:UInt8):Bool:=acY b.toNat
def aa8 (b:UInt8):Bool:=aiB b.toNat
def H9:List UInt8→Bool
 | []=>true
 | b::r=>aa8 b && H9 r
theorem aaJ:H9 []=true:=rfl
theorem Qa (b:UInt8) (r:List UInt8):H9 (b::r)=(aa8 b && H9 r):=rfl
def keywords:List (List UInt8):=
 [[97,110,100],[115,111,109,101],[105,110],[116,111],[110,111,116,104,105,110,103],[101,118,101,114,121,116,104,105,110,103],[111,110,101],[111,102],
  [111,112,101,110],[112,114,105,118,97,116,101],[115,117,98],[115,97,109,101],[100,105,115,106,111,105,110,116],[100,111,109,97,105,110],[114,111,108,101],
  [99,104,97,105,110],[114,101,102,108,101,120,105,118,101],[116,121,112,101],[108,105,110,107],[115,101,108,101,99,116],[119,104,101,114,101],[111,114]]
def kwS (l:List UInt8):Bool:=keywords.contains l
def EY (l:List UInt8):Bool:=(match l with | []=>false|b::_=>acZ b) && H9 l && !kwS l
def lm (l:List UInt8):Bool:=decide (l.length≤24) && (match A7 58 l with|some (x,y)=>EY x && EY y|none=>EY l)
def Qv (l:List UInt8):Bool:=decide (2≤l.length) && decide (l.length≤24) && (match l with | []=>false|b::_=>decide ((b.toNat:Int)=95)) && H9 l
@[simp] theorem abO (k:Int) (s:St) (cx:Ctx):ah P0 (.fn (.func oO) [] []) [.i .u8 k] s cx=.ret (.b (acY k)) s:=by
 refine Ko (by simp) ?_
 simp [af,um,acY]
 repeat' (split<;>simp only [jZ,kz,kE]<;>simp [*])
theorem FM (s:St) (cx:Ctx) (l:List UInt8) (hl:l.length≤1152921504606846976):∀(rest:List UInt8) (i:Nat),l.drop i=rest→
  ∃j:Int,eY (aB P0.glob (ah P0) cx false sG) [6,7,8] [(6,.v (.sl (aC l))),(7,.v (.i .i64 l.length)),(8,.v (.i .i64 i))] s=
   if H9 rest=true then .exit 0 [(6,.v (.sl (aC l))),(7,.v (.i .i64 l.length)),(8,.v (.i .i64 j)),(9,.v (.b false))] s else .ret [(2,.v (.b false))] s
 | [],i,h=>by
  have h1:¬i<l.length:=Nat.not_lt.2 (drop_nil h)
  refine ⟨i,ak fun K hK=>?_⟩
  simp [sG,h1,aaJ]
 | b::r,i,h=>by
  obtain ⟨h1,h2,h3,h4⟩:=drop_cons h
  have h5:=h4 h3
  have hb:(aC l)[i]?=some (.i .u8 b.toNat):=by simp [aC,h1]
  have hw:=wI (i:=i) (by omega)
  obtain ⟨j,ih⟩:=FM s cx l hl r (i+1) h2
  refine ⟨j,ak fun K hK=>?_⟩
  rw [←hK,show ((i+1:Nat):Int)=(i:Int)+1 from rfl] at ih
  clear hK
  rcases Bool.eq_false_or_eq_true (aa8 b) with hin|hin<;>rcases Bool.eq_false_or_eq_true (acY b.toNat) with hlt|hlt <;>
  ·have hin':=hin
   simp [aa8,aiB,hlt] at hin'
   try simp [sG,h3,hb,Qa,hin,hlt,hw,ih]
   repeat' (first | (split<;>(try simp only [jZ,kz,kE,pR,pU])<;>(try simp [*])) | (simp only [jZ,kz,kE,pR,pU]<;>(try simp [*]))|omega)
theorem F7 (l:List UInt8) (hl:l.length≤1152921504606846976) (s:St) (cx:Ctx):ah P0 (.fn (.func rQ) [] []) [.s l] s cx=.ret (.b (H9 l)) s:=by
 refine OX (by simp) ?_
 obtain ⟨j,h⟩:=FM s ⟨s.length,s.length⟩ l hl l 0 rfl
 have hb:(aC l).length=l.length:=by simp [aC]
 simp at h
 simp [af,wG,hb,h]
 repeat' (first | (split<;>(try simp only [jZ,kz,kE,pR,pU])<;>(try simp [*])) | (simp only [jZ,kz,kE,pR,pU]<;>(try simp [*]))|omega)
@[simp] theorem ab2 (l:List UInt8) (s:St) (cx:Ctx):ah P0 (.fn (.func qi) [] []) [.s l] s cx=.ret (.b (kwS l)) s:=by
 refine MO (by simp) ?_
 simp [af,vk]
 repeat' (first | (split<;>(try simp only [jZ,kz,kE,pR,pU])<;>(try simp [*])) | (simp only [jZ,kz,kE,pR,pU]<;>(try simp [*]))|omega)
 all_goals first|rfl|simp [kwS,keywords, *]
theorem AQ (l:List UInt8) (hl:l.length≤1152921504606846976) (s:St) (cx:Ctx):ah P0 (.fn (.func rP) [] []) [.s l] s cx=.ret (.b (EY l)) s:=by
 refine OW (by simp) ?_
 cases l with
 | nil=>simp [af,sZ,EY]
 | cons b r=>
  have e1:=F7 _ hl
  simp [af,sZ,e1,EY,acZ]
  repeat' (first | (split<;>(try simp only [jZ,kz,kE,pR,pU])<;>(try simp [*])) | (simp only [jZ,kz,kE,pR,pU]<;>(try simp [*]))|omega)
theorem wV (l:List UInt8) (hl:l.length≤1152921504606846976) (s:St) (cx:Ctx):ah P0 (.fn (.func mF) [] []) [.s l] s cx=.ret (.b (Qv l)) s:=by
 refine Hw (by simp) ?_
 cases l with
 | nil=>simp [af,nY,Qv]
 | cons b r=>
  have e1:=F7 _ hl
  simp [af,nY,e1,Qv]
  repeat' (first | (split<;>(try simp only [jZ,kz,kE,pR,pU])<;>(try simp [*])) | (simp only [jZ,kz,kE,pR,pU]<;>(try simp [*]))|omega)
@[simp] theorem abZ (l:List UInt8) (s:St) (cx:Ctx):ah P0 (.fn (.func lK) [] []) [.s l] s cx=.ret (.b (lm l)) s:=by
 refine MF (by simp) ?_
 by_cases hl:l.length≤24
 ·have hn:¬((24:Int)<l.length):=by omega
  cases hc:A7 58 l with
  | none=>
   have hcut:=Iu l 58 (by omega)
   rw [hc] at hcut
   simp only [] at hcut
   have e1:=AQ l (by omega)
   simp [af,oJ,hcut,hn,e1,lm,hc,hl]
   repeat' (first | (split<;>(try simp only [jZ,kz,kE,pR,pU])<;>(try simp [*])) | (simp only [jZ,kz,kE,pR,pU]<;>(try simp [*]))|omega)
  | some p=>
   obtain ⟨x,y⟩:=p
   have hcut:=Iu l 58 (by omega)
   rw [hc] at hcut
   simp only [] at hcut
   have:=KI hc
   have hx:x.length≤1152921504606846976:=by have:=congrArg List.length this;simp at this;omega
   have hy:y.length≤1152921504606846976:=by have:=congrArg List.length this;simp at this;omega
   clear this
   have e1:=AQ x hx
   have e2:=AQ y hy
   simp [af,oJ,hcut,hn,e1,e2,lm,hc,hl]
   repeat' (first | (split<;>(try simp only [jZ,kz,kE,pR,pU])<;>(try simp [*])) | (simp only [jZ,kz,kE,pR,pU]<;>(try simp [*]))|omega)
 ·have hn:(24:Int)<l.length:=by omega
  simp [af,oJ,hn,lm,hl]
end Go.Ai.Z
namespace Go.Ai.Z
theorem J3 (s:St) (cx:Ctx) (c:C) (hw:wC c≤100000)
  (ih:∀p∈c.parts,∀(s:St) (cx:Ctx),ah P0 (.fn (.func ng) [] []) [bF p] s cx=.ret (.i .i64 (dS p)) s):
  ∀(rest:List C) (i:Nat) (n:Nat),c.parts.drop i=rest→n+fD rest≤100000→i≤c.parts.length→
  eY (aB P0.glob (ah P0) cx false ve) [1,3,4] [(1,.bx (bF c).cells),(3,.v (.i .i64 n)),(4,.v (.i .i64 i))] s=
   .exit 0 [(1,.bx (bF c).cells),(3,.v (.i .i64 (n+fD rest:Nat))),(4,.v (.i .i64 c.parts.length)),(9,.v (.b false))] s
 | [],i,n,h,hn,hi=>by
  have h0:=drop_nil h
  obtain rfl:i=c.parts.length:=by omega
  refine ak fun K hK=>?_
  simp [ve,fD]
 | p::r,i,n,h,hn,hi=>by
  obtain ⟨h1,h2,h3,h4⟩:=drop_cons h
  have h5:=h4 h3
  have hp:p∈c.parts:=by rw [←h5];exact List.getElem_mem h3
  have hl:=yD c.parts
  rw [qj] at hw
  have hwi:=wI (i:=i) (by omega)
  simp only [fD] at hn
  have ih2:=J3 s cx c (by rw [qj];exact hw) ih r (i+1) (n+dS p) h2 (by omega) (by omega)
  refine ak fun K hK=>?_
  rw [←hK] at ih2
  have e1:=ih p hp
  clear hK h4 ih
  have w3:IntKind.i64.wrap ((n:Int)+dS p)=(n:Int)+dS p:=w64 (by omega) (by omega)
  simp at ih2
  simp [ve,h3,h5,w3,hwi,e1,ih2,fD]
  omega
theorem Ee:∀(c:C),wC c≤100000→∀(s:St) (cx:Ctx),ah P0 (.fn (.func ng) [] []) [bF c] s cx=.ret (.i .i64 (dS c)) s:=by
 refine C.ind' fun c ih hw s cx=>?_
 have hs:=WV c
 have hw':=hw
 rw [qj] at hw'
 rw [nV] at hs
 have h:=J3 s ⟨s.length,s.length⟩ c hw (fun p hp=>ih p hp (by have:=wM hp;omega)) c.parts 0 1 rfl (by omega) (by omega)
 refine Tv (by simp) ?_
 simp at h
 simp [af,yT,h,nV c]
def oV (c:C):Bool:=
 let plain:=decide (c.lo=0) && decide (c.hi=0)
 if c.kind=1 then plain && decide (c.name=[]) && decide ((c.parts.length:Int)=0)
 else if c.kind=2 then plain && decide (c.name=[]) && decide ((c.parts.length:Int)=0)
 else if c.kind=3 then plain && decide ((c.parts.length:Int)=0)
 else if c.kind=4 then plain && decide ((c.parts.length:Int)=0)
 else if c.kind=5 then plain && decide (c.name=[]) && decide ((2:Int)≤c.parts.length) && decide ((c.parts.length:Int)≤8)
 else if c.kind=6 then plain && decide ((c.parts.length:Int)=1)
 else if c.kind=7 then decide ((c.parts.length:Int)=0) && decide (-1099511627776≤c.lo) && decide (c.lo≤c.hi) && decide (c.hi≤1099511627776)
 else false
def xK (c:C):Bool:=
 if c.kind=3 then lm c.name
 else if c.kind=6 then lm c.name
 else if c.kind=7 then lm c.name
 else if c.kind=4 then lm c.name || Qv c.name
 else true
mutual
def iI:C→Int
 | .mk k n l h z ps=>if oV (.mk k n l h z ps)=false then 21 else if xK (.mk k n l h z ps)=false then 20 else qV ps
def qV:List C→Int
 | []=>0
 | p::r=>if iI p=0 then qV r else iI p
end
theorem BN (c:C):iI c=if oV c=false then 21 else if xK c=false then 20 else qV c.parts:=by cases c;simp [iI]
def jl (c:C):Int:=if 8<ny c∨64<dS c then 21 else iI c
end Go.Ai.Z
namespace Go.Ai.Z
def sJ (c:C):Int:=if oV c=false then 21 else if xK c=false then 20 else 0
theorem Y8:P0.glob BM=some [.i .i64 0,.i .i64 0,.i .i64 0,.b false,.i .i64 0,.i .i64 0,.i .i64 0,.b false,.i .i64 0,.i .i64 0,.i .i64 0,.b false,.i .i64 1,.i .i64 0,.i .i64 0,.b false,.i .i64 2,.i .i64 0,.i .i64 0,.b false,.i .i64 0,.i .i64 2,.i .i64 8,.b false,.i .i64 1,.i .i64 1,.i .i64 1,.b false,.i .i64 1,.i .i64 0,.i .i64 0,.b true]:=rfl
theorem H7 (c:C) (hn:c.name.length≤1152921504606846976) (s:St) (cx:Ctx):ah P0 (.fn (.func ou) [] []) [bF c] s cx=.ret (.i .i64 (sJ c)) s:=by
 refine FU (by simp) ?_
 have e1:=wV c.name hn
 by_cases h0:c.kind<1
 ·have:oV c=false:=by simp [oV,show ¬c.kind=1 by omega,show ¬c.kind=2 by omega,show ¬c.kind=3 by omega,show ¬c.kind=4 by omega,show ¬c.kind=5 by omega,show ¬c.kind=6 by omega,show ¬c.kind=7 by omega]
  simp [af,kL,h0,sJ,this]
 by_cases h8:7<c.kind
 ·have:oV c=false:=by simp [oV,show ¬c.kind=1 by omega,show ¬c.kind=2 by omega,show ¬c.kind=3 by omega,show ¬c.kind=4 by omega,show ¬c.kind=5 by omega,show ¬c.kind=6 by omega,show ¬c.kind=7 by omega]
  simp [af,kL,h0,h8,sJ,this]
 have hk:c.kind=1∨c.kind=2∨c.kind=3∨c.kind=4∨c.kind=5∨c.kind=6∨c.kind=7:=by omega
 rcases hps:c.parts with _|⟨a,_|⟨b,r⟩⟩<;>rcases hk with hk|hk|hk|hk|hk|hk|hk
 all_goals
  clear h0 h8
  simp [af,kL,hk,Y8,sJ,oV,xK,hps]
  repeat' (first | (split<;>(try simp only [jZ,kz,kE,pR,pU])<;>(try simp [*])) | (simp only [jZ,kz,kE,pR,pU]<;>(try simp [*]))|omega)
end Go.Ai.Z
