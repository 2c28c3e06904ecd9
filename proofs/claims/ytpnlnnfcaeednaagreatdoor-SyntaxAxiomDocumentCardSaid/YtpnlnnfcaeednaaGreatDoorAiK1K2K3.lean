/-
 Names: what the program's and the reference's functions on them answer.
-/
import Derived.Test.YtpnlnnfcaeednaaGreatDoorAiC2
import Derived.Test.YtpnlnnfcaeednaaGreatDoorAiSxD
set_option maxRecDepth 100000
set_option linter.unusedSimpArgs false
set_option linter.unusedVariables false
set_option linter.unusedSectionVars false
namespace Go.Ai.Z
def AU (b:UInt8):List UInt8→Option (List UInt8×List UInt8)
 | []=>none
 | x::r=>if x=b then some ([],r) else (AU b r).map fun p=>(x::p.1,p.2)
theorem Kv {b:UInt8}:∀{l x y:List UInt8},AU b l=some (x,y)→l=x++b::y
 | [],_,_,h=>by simp [AU] at h
 | c::r,x,y,h=>by
  by_cases hc:c=b
  ·simp [AU,hc] at h;obtain ⟨rfl,rfl⟩:=h;simp [hc]
  ·simp [AU,hc] at h
   obtain ⟨p,q,rfl⟩:=h
   simp [Kv q]
theorem index_none {b:UInt8}:∀{l:List UInt8},AU b l=none→Go.Lib.indexByte l b=-1
 | [],_=>rfl
 | c::r,h=>by
  by_cases hc:c=b
  ·simp [AU,hc] at h
  ·simp [AU,hc] at h
   simp [Go.Lib.indexByte,hc,index_none h]
theorem QA {b:UInt8}:∀{l x y:List UInt8},AU b l=some (x,y)→Go.Lib.indexByte l b=x.length
 | [],_,_,h=>by simp [AU] at h
 | c::r,x,y,h=>by
  by_cases hc:c=b
  ·simp [AU,hc] at h;obtain ⟨rfl,rfl⟩:=h;simp [Go.Lib.indexByte,hc]
  ·simp [AU,hc] at h
   obtain ⟨p,q,rfl⟩:=h
   have:=QA q
   have h1:¬((p.length:Int)=-1):=by omega
   simp [Go.Lib.indexByte,hc,this,h1]
theorem Zv (l:List UInt8) (b:UInt8) (s:St) (cx:Ctx):ah P0 (.fn (.func nO) [] []) [.s l,.s [b]] s cx=.ret (.i .i64 (Go.Lib.indexByte l b)) s:=
 xM (h:=Ia U3) rfl rfl
theorem KF (l:List UInt8) (b:UInt8) (hl:l.length≤1152921504606846976) (s:St) (cx:Ctx):ah P0 (.fn (.func jv) [] []) [.s l,.s [b]] s cx=
  .ret (match AU b l with|some (x,y)=>.tu [.s x,.s y,.b true] | none=>.tu [.s l,.s [],.b false]) s:=by
 refine zH (by simp) ?_
 cases hc:AU b l with
 | none=>simp [af,jg,Zv,index_none hc]
 | some p=>
  obtain ⟨x,y⟩:=p
  have hi:=QA hc
  have he:=Kv hc
  have hlen:l.length=x.length+(y.length+1):=by rw [he];simp
  have w1:IntKind.i64.wrap ((x.length:Int)+1)=(x.length:Int)+1:=w64 (by omega) (by omega)
  have e1:l.take x.length=x:=by rw [he];simp
  have e2:(l.drop (x.length+1)).take (l.length - (x.length+1))=y:=by
   rw [hlen,he,show x.length+1=(x++[b]).length from by simp,show x++b::y=(x++[b])++y from by simp,List.drop_left]
   exact List.take_of_length_le (by simp;omega)
  clear he
  have hn:((x.length:Int)+1).toNat=x.length+1:=by omega
  have h0:(0:Int)≤(x.length:Int)+1:=by omega
  have g1:x.length≤l.length:=by omega
  have g2:x.length+1≤l.length:=by omega
  simp [af,jg,Zv,hi,w1,hn,h0,g1,g2,e1,e2]
theorem Iu (l:List UInt8) (b:UInt8) (hl:l.length≤1152921504606846976) (s:St) (cx:Ctx):ah P0 (.fn (.func vT) [] []) [.s l,.s [b]] s cx=
  .ret (match AU b l with|some (x,y)=>.tu [.s x,.s y,.b true] | none=>.tu [.s l,.s [],.b false]) s:=by
 refine QJ (by simp) ?_
 have e1:=KF l b hl
 cases hc:AU b l with
 | none=>rw [hc] at e1;simp [af,um,e1]
 | some p=>obtain ⟨x,y⟩:=p;rw [hc] at e1;simp [af,um,e1]
def abT (k:Int):Bool:=decide (97≤k) && decide (k≤122) || decide (65≤k) && decide (k≤90)
def ahw (k:Int):Bool:=abT k || decide (48≤k) && decide (k≤57) || decide (k=95)
def abU (b:UInt8):Bool:=abT b.toNat
def aag (b:UInt8):Bool:=ahw b.toNat
def H8:List UInt8→Bool
 | []=>true
 | b::r=>aag b && H8 r
theorem ZI:H8 []=true:=rfl
theorem Pj (b:UInt8) (r:List UInt8):H8 (b::r)=(aag b && H8 r):=rfl
def keywords:List (List UInt8):=
 [[97,110,100],[115,111,109,101],[105,110],[116,111],[110,111,116,104,105,110,103],[101,118,101,114,121,116,104,105,110,103],[111,110,101],[111,102],
  [111,112,101,110],[112,114,105,118,97,116,101],[115,117,98],[115,97,109,101],[100,105,115,106,111,105,110,116],[100,111,109,97,105,110],[114,111,108,101],
  [99,104,97,105,110],[114,101,102,108,101,120,105,118,101],[116,121,112,101],[108,105,110,107],[115,101,108,101,99,116],[119,104,101,114,101],[111,114]]
def kwS (l:List UInt8):Bool:=keywords.contains l
def ES (l:List UInt8):Bool:=(match l with | []=>false|b::_=>abU b) && H8 l && !kwS l
def lq (l:List UInt8):Bool:=decide (l.length≤24) && (match AU 58 l with|some (x,y)=>ES x && ES y|none=>ES l)
def PV (l:List UInt8):Bool:=decide (2≤l.length) && decide (l.length≤24) && (match l with | []=>false|b::_=>decide ((b.toNat:Int)=95)) && H8 l
@[simp] theorem aaR (k:Int) (s:St) (cx:Ctx):ah P0 (.fn (.func oI) [] []) [.i .u8 k] s cx=.ret (.b (abT k)) s:=by
 refine JY (by simp) ?_
 simp [af,tJ,abT]
 repeat' (split<;>simp only [jZ,kz,jU]<;>simp [*])
theorem FM (s:St) (cx:Ctx) (l:List UInt8) (hl:l.length≤1152921504606846976):∀(rest:List UInt8) (i:Nat),l.drop i=rest→
  ∃j:Int,fH (aB P0.glob (ah P0) cx false rM) [6,7,8] [(6,.v (.sl (aA l))),(7,.v (.i .i64 l.length)),(8,.v (.i .i64 i))] s=
   if H8 rest=true then .exit 0 [(6,.v (.sl (aA l))),(7,.v (.i .i64 l.length)),(8,.v (.i .i64 j)),(9,.v (.b false))] s else .ret [(2,.v (.b false))] s
 | [],i,h=>by
  have h1:¬i<l.length:=Nat.not_lt.2 (drop_nil h)
  refine ⟨i,ak fun K hK=>?_⟩
  simp [rM,h1,ZI]
 | b::r,i,h=>by
  obtain ⟨h1,h2,h3,h4⟩:=drop_cons h
  have h5:=h4 h3
  have hb:(aA l)[i]?=some (.i .u8 b.toNat):=by simp [aA,h1]
  have hw:=wI (i:=i) (by omega)
  obtain ⟨j,ih⟩:=FM s cx l hl r (i+1) h2
  refine ⟨j,ak fun K hK=>?_⟩
  rw [←hK,show ((i+1:Nat):Int)=(i:Int)+1 from rfl] at ih
  clear hK
  rcases Bool.eq_false_or_eq_true (aag b) with hin|hin<;>rcases Bool.eq_false_or_eq_true (abT b.toNat) with hlt|hlt <;>
  ·have hin':=hin
   simp [aag,ahw,hlt] at hin'
   try simp [rM,h3,hb,Pj,hin,hlt,hw,ih]
   repeat' (first | (split<;>(try simp only [jZ,kz,jU,pG,pI])<;>(try simp [*])) | (simp only [jZ,kz,jU,pG,pI]<;>(try simp [*]))|omega)
theorem F8 (l:List UInt8) (hl:l.length≤1152921504606846976) (s:St) (cx:Ctx):ah P0 (.fn (.func qX) [] []) [.s l] s cx=.ret (.b (H8 l)) s:=by
 refine Oy (by simp) ?_
 obtain ⟨j,h⟩:=FM s ⟨s.length,s.length⟩ l hl l 0 rfl
 have hb:(aA l).length=l.length:=by simp [aA]
 simp at h
 simp [af,vX,hb,h]
 repeat' (first | (split<;>(try simp only [jZ,kz,jU,pG,pI])<;>(try simp [*])) | (simp only [jZ,kz,jU,pG,pI]<;>(try simp [*]))|omega)
@[simp] theorem aa3 (l:List UInt8) (s:St) (cx:Ctx):ah P0 (.fn (.func pX) [] []) [.s l] s cx=.ret (.b (kwS l)) s:=by
 refine LV (by simp) ?_
 simp [af,uX]
 repeat' (first | (split<;>(try simp only [jZ,kz,jU,pG,pI])<;>(try simp [*])) | (simp only [jZ,kz,jU,pG,pI]<;>(try simp [*]))|omega)
 all_goals first|rfl|simp [kwS,keywords, *]
theorem AB (l:List UInt8) (hl:l.length≤1152921504606846976) (s:St) (cx:Ctx):ah P0 (.fn (.func qW) [] []) [.s l] s cx=.ret (.b (ES l)) s:=by
 refine Ox (by simp) ?_
 cases l with
 | nil=>simp [af,sK,ES]
 | cons b r=>
  have e1:=F8 _ hl
  simp [af,sK,e1,ES,abU]
  repeat' (first | (split<;>(try simp only [jZ,kz,jU,pG,pI])<;>(try simp [*])) | (simp only [jZ,kz,jU,pG,pI]<;>(try simp [*]))|omega)
theorem wM (l:List UInt8) (hl:l.length≤1152921504606846976) (s:St) (cx:Ctx):ah P0 (.fn (.func l9) [] []) [.s l] s cx=.ret (.b (PV l)) s:=by
 refine Hu (by simp) ?_
 cases l with
 | nil=>simp [af,nP,PV]
 | cons b r=>
  have e1:=F8 _ hl
  simp [af,nP,e1,PV]
  repeat' (first | (split<;>(try simp only [jZ,kz,jU,pG,pI])<;>(try simp [*])) | (simp only [jZ,kz,jU,pG,pI]<;>(try simp [*]))|omega)
@[simp] theorem aa1 (l:List UInt8) (s:St) (cx:Ctx):ah P0 (.fn (.func lJ) [] []) [.s l] s cx=.ret (.b (lq l)) s:=by
 refine LJ (by simp) ?_
 by_cases hl:l.length≤24
 ·have hn:¬((24:Int)<l.length):=by omega
  cases hc:AU 58 l with
  | none=>
   have hcut:=Iu l 58 (by omega)
   rw [hc] at hcut
   simp only [] at hcut
   have e1:=AB l (by omega)
   simp [af,oz,hcut,hn,e1,lq,hc,hl]
   repeat' (first | (split<;>(try simp only [jZ,kz,jU,pG,pI])<;>(try simp [*])) | (simp only [jZ,kz,jU,pG,pI]<;>(try simp [*]))|omega)
  | some p=>
   obtain ⟨x,y⟩:=p
   have hcut:=Iu l 58 (by omega)
   rw [hc] at hcut
   simp only [] at hcut
   have:=Kv hc
   have hx:x.length≤1152921504606846976:=by have:=congrArg List.length this;simp at this;omega
   have hy:y.length≤1152921504606846976:=by have:=congrArg List.length this;simp at this;omega
   clear this
   have e1:=AB x hx
   have e2:=AB y hy
   simp [af,oz,hcut,hn,e1,e2,lq,hc,hl]
   repeat' (first | (split<;>(try simp only [jZ,kz,jU,pG,pI])<;>(try simp [*])) | (simp only [jZ,kz,jU,pG,pI]<;>(try simp [*]))|omega)
 ·have hn:(24:Int)<l.length:=by omega
  simp [af,oz,hn,lq,hl]
end Go.Ai.Z
namespace Go.Ai.Z
def tZ (c:C):Bool:=
 let plain:=decide (c.lo=0) && decide (c.hi=0)
 if c.kind=1 then plain && decide (c.name=[]) && decide ((c.parts.length:Int)=0)
 else if c.kind=2 then plain && decide (c.name=[]) && decide ((c.parts.length:Int)=0)
 else if c.kind=3 then plain && decide ((c.parts.length:Int)=0)
 else if c.kind=4 then plain && decide ((c.parts.length:Int)=0)
 else if c.kind=5 then plain && decide (c.name=[]) && decide ((2:Int)≤c.parts.length) && decide ((c.parts.length:Int)≤8)
 else if c.kind=6 then plain && decide ((c.parts.length:Int)=1)
 else if c.kind=7 then decide ((c.parts.length:Int)=0) && decide (-1099511627776≤c.lo) && decide (c.lo≤c.hi) && decide (c.hi≤1099511627776)
 else false
def Fz (c:C):Bool:=
 if c.kind=3 then lq c.name
 else if c.kind=6 then lq c.name
 else if c.kind=7 then lq c.name
 else if c.kind=4 then lq c.name || PV c.name
 else true
mutual
def qG:C→Int
 | .mk k n l h z ps=>if tZ (.mk k n l h z ps)=false then 21 else if Fz (.mk k n l h z ps)=false then 20 else zY ps
def zY:List C→Int
 | []=>0
 | p::r=>if qG p=0 then zY r else qG p
end
theorem VR (c:C):qG c=if tZ c=false then 21 else if Fz c=false then 20 else zY c.parts:=by cases c;simp [qG]
def uD (c:C):Int:=if 8<D5 c∨64<dX c then 21 else qG c
end Go.Ai.Z
namespace Go.Ai.Z
def rQ (c:C):Int:=if tZ c=false then 21 else if Fz c=false then 20 else 0
theorem Yv:P0.glob BL=some [.i .i64 0,.i .i64 0,.i .i64 0,.b false,.i .i64 0,.i .i64 0,.i .i64 0,.b false,.i .i64 0,.i .i64 0,.i .i64 0,.b false,.i .i64 1,.i .i64 0,.i .i64 0,.b false,.i .i64 2,.i .i64 0,.i .i64 0,.b false,.i .i64 0,.i .i64 2,.i .i64 8,.b false,.i .i64 1,.i .i64 1,.i .i64 1,.b false,.i .i64 1,.i .i64 0,.i .i64 0,.b true]:=rfl
theorem H6 (c:C) (hn:c.name.length≤1152921504606846976) (s:St) (cx:Ctx):ah P0 (.fn (.func nT) [] []) [bG c] s cx=.ret (.i .i64 (rQ c)) s:=by
 refine FU (by simp) ?_
 have e1:=wM c.name hn
 by_cases h0:c.kind<1
 ·have:tZ c=false:=by simp [tZ,show ¬c.kind=1 by omega,show ¬c.kind=2 by omega,show ¬c.kind=3 by omega,show ¬c.kind=4 by omega,show ¬c.kind=5 by omega,show ¬c.kind=6 by omega,show ¬c.kind=7 by omega]
  simp [af,kK,h0,rQ,this]
 by_cases h8:7<c.kind
 ·have:tZ c=false:=by simp [tZ,show ¬c.kind=1 by omega,show ¬c.kind=2 by omega,show ¬c.kind=3 by omega,show ¬c.kind=4 by omega,show ¬c.kind=5 by omega,show ¬c.kind=6 by omega,show ¬c.kind=7 by omega]
  simp [af,kK,h0,h8,rQ,this]
 have hk:c.kind=1∨c.kind=2∨c.kind=3∨c.kind=4∨c.kind=5∨c.kind=6∨c.kind=7:=by omega
 rcases hps:c.parts with _|⟨a,_|⟨b,r⟩⟩<;>rcases hk with hk|hk|hk|hk|hk|hk|hk
 all_goals
  clear h0 h8
  simp [af,kK,hk,Yv,rQ,tZ,Fz,hps]
  repeat' (first | (split<;>(try simp only [jZ,kz,jU,pG,pI])<;>(try simp [*])) | (simp only [jZ,kz,jU,pG,pI]<;>(try simp [*]))|omega)
end Go.Ai.Z
