/-
 Names: what the program's and the reference's functions on them answer.
-/
import Derived.Test.YtcofenimejmoeaaGreatDoorAiC1
import Derived.Test.YtcofenimejmoeaaGreatDoorAiDf
import Derived.KernelRfl
set_option maxRecDepth 100000
set_option linter.unusedSimpArgs false
set_option linter.unusedVariables false
set_option linter.unusedSectionVars false
namespace Go.Ai.Z
def lD (b:UInt8):Rl→Option (Rl×Rl)
 | []=>none
 | x::r=>if x=b then some ([],r) else (lD b r).map fun p=>(x::p.1,p.2)
theorem yY {b:UInt8}:∀{l:Rl},lD b l=none ↔ b ∉ l
 | []=>by simp [lD]
 | x::r=>by
  by_cases h:x=b
  ·simp [lD,h]
  ·have:=yY (b:=b) (l:=r)
   simp [lD,h,this,Ne.symm h]
theorem wF {b:UInt8}:∀{l x y:Rl},lD b l=some (x,y)→l=x++b::y
 | [],_,_,h=>by simp [lD] at h
 | c::r,x,y,h=>by
  by_cases hc:c=b
  ·simp [lD,hc] at h;obtain ⟨rfl,rfl⟩:=h;simp [hc]
  ·simp [lD,hc] at h;obtain ⟨p,q,rfl⟩:=h;simp [wF q]
theorem index_none {b:UInt8}:∀{l:Rl},lD b l=none→Go.Lib.indexByte l b=-1
 | [],_=>rfl
 | c::r,h=>by
  by_cases hc:c=b
  ·simp [lD,hc] at h
  ·simp [lD,hc] at h;simp [Go.Lib.indexByte,hc,index_none h]
theorem Eg {b:UInt8}:∀{l x y:Rl},lD b l=some (x,y)→Go.Lib.indexByte l b=x.length
 | [],_,_,h=>by simp [lD] at h
 | c::r,x,y,h=>by
  by_cases hc:c=b
  ·simp [lD,hc] at h;obtain ⟨rfl,rfl⟩:=h;simp [Go.Lib.indexByte,hc]
  ·simp [lD,hc] at h;obtain ⟨p,q,rfl⟩:=h
   have:=Eg q
   have h1:¬((p.length:Int)=-1):=by omega
   simp [Go.Lib.indexByte,hc,this,h1]
theorem WM (l:Rl) (b:UInt8) (s:St) (cx:Ctx):aj P0 (.fn (.func kC) [] []) [.s l,.s [b]] s cx=.ret (.i .i64 (Go.Lib.indexByte l b)) s:=
 sK (h:=Iu V9) rfl rfl
theorem LV (l:Rl) (b:UInt8) (hl:l.length≤1152921504606846976) (s:St) (cx:Ctx):aj P0 (.fn (.func jw) [] []) [.s l,.s [b]] s cx=
  .ret (match lD b l with|some (x,y)=>.tu [.s x,.s y,.b true] | none=>.tu [.s l,.s [],.b false]) s:=by
 refine Aj (by simp) ?_
 cases hc:lD b l with
 | none=>simp [af,jc,WM,index_none hc]
 | some p=>
  obtain ⟨x,y⟩:=p;have hi:=Eg hc;have he:=wF hc;have hlen:l.length=x.length+(y.length+1):=by rw [he];simp
  have w1:IntKind.i64.wrap ((x.length:Int)+1)=(x.length:Int)+1:=w64 (by omega) (by omega);have e1:l.take x.length=x:=by rw [he];simp
  have e2:(l.drop (x.length+1)).take (l.length - (x.length+1))=y:=by
   rw [hlen,he,show x.length+1=(x++[b]).length from by simp,show x++b::y=(x++[b])++y from by simp,List.drop_left];exact List.take_of_length_le (by simp;omega)
  clear he;have hn:((x.length:Int)+1).toNat=x.length+1:=by omega
  have h0:(0:Int)≤(x.length:Int)+1:=by omega
  have g1:x.length≤l.length:=by omega
  have g2:x.length+1≤l.length:=by omega
  simp [af,jc,WM,hi,w1,hn,h0,g1,g2,e1,e2]
theorem zn (l:Rl) (b:UInt8) (hl:l.length≤1152921504606846976) (s:St) (cx:Ctx):aj P0 (.fn (.func qg) [] []) [.s l,.s [b]] s cx=
  .ret (match lD b l with|some (x,y)=>.tu [.s x,.s y,.b true] | none=>.tu [.s l,.s [],.b false]) s:=by
 refine Rw (by simp) ?_;have e1:=LV l b hl
 cases hc:lD b l with
 | none=>rw [hc] at e1;simp [af,uP,e1]
 | some p=>obtain ⟨x,y⟩:=p;rw [hc] at e1;simp [af,uP,e1]
def abI (k:Int):Bool:=decide (97≤k) && decide (k≤122) || decide (65≤k) && decide (k≤90)
def aii (k:Int):Bool:=abI k || decide (48≤k) && decide (k≤57) || decide (k=95)
def akC (b:UInt8):Bool:=abI b.toNat
def Zw (b:UInt8):Bool:=aii b.toNat
def Ip:Rl→Bool
 | []=>true
 | b::r=>Zw b && Ip r
theorem abb:Ip []=true:=rfl
theorem IZ (b:UInt8) (r:Rl):Ip (b::r)=(Zw b && Ip r):=rfl
def keywords:List Rl:=
 [[97,110,100],[115,111,109,101],[105,110],[116,111],[110,111,116,104,105,110,103],wD4,[111,110,101],[111,102],
  [111,112,101,110],[112,114,105,118,97,116,101],[115,117,98],[115,97,109,101],[100,105,115,106,111,105,110,116],[100,111,109,97,105,110],[114,111,108,101],
  [99,104,97,105,110],[114,101,102,108,101,120,105,118,101],[116,121,112,101],[108,105,110,107],[115,101,108,101,99,116],[119,104,101,114,101],[111,114]]
def kwS (l:Rl):Bool:=keywords.contains l
def AP (l:Rl):Bool:=(match l with | []=>false|b::_=>akC b) && Ip l && !kwS l
def oL (l:Rl):Bool:=decide (l.length≤24) && (match lD 58 l with|some (x,y)=>AP x && AP y|none=>AP l)
def MF (l:Rl):Bool:=decide (2≤l.length) && decide (l.length≤24) && (match l with | []=>false|b::_=>decide ((b.toNat:Int)=95)) && Ip l
@[simp] theorem acN (k:Int) (s:St) (cx:Ctx):aj P0 (.fn (.func nT) [] []) [.i .u8 k] s cx=.ret (.b (abI k)) s:=by
 refine Le (by simp) ?_;simp [af,uo,abI]
 repeat' (split<;>simp only [gm,gq,gB]<;>simp [*])
theorem FX (s:St) (cx:Ctx) (l:Rl) (hl:l.length≤1152921504606846976):∀(rest:Rl) (i:Nat),l.drop i=rest→
  ∃j:Int,gU (aC P0.glob (aj P0) cx false rY) [6,7,8] [(6,.v (.sl (au l))),(7,.v (.i .i64 l.length)),(8,.v (.i .i64 i))] s=
   if Ip rest=true then .exit 0 [(6,.v (.sl (au l))),(7,.v (.i .i64 l.length)),(8,.v (.i .i64 j)),(9,.v (.b false))] s else .ret [(2,.v (.b false))] s
 | [],i,h=>by
  have h1:¬i<l.length:=Nat.not_lt.2 (drop_nil h);refine ⟨i,ak fun K hK=>?_⟩;simp [rY,h1,abb]
 | b::r,i,h=>by
  obtain ⟨h1,h2,h3,h4⟩:=drop_cons h;have h5:=h4 h3;have hb:(au l)[i]?=some (.i .u8 b.toNat):=by simp [au,h1]
  have hw:=wI (i:=i) (by omega);obtain ⟨j,ih⟩:=FX s cx l hl r (i+1) h2;refine ⟨j,ak fun K hK=>?_⟩;rw [←hK,show ((i+1:Nat):Int)=(i:Int)+1 from rfl] at ih;clear hK
  rcases Bool.eq_false_or_eq_true (Zw b) with hin|hin<;>rcases Bool.eq_false_or_eq_true (abI b.toNat) with hlt|hlt <;>
  ·have hin':=hin;simp [Zw,aii,hlt] at hin'
   try simp [rY,h3,hb,IZ,hin,hlt,hw,ih]
   repeat' (first | (split<;>(try simp only [gm,gq,gB,kD,kE])<;>(try simp [*])) | (simp only [gm,gq,gB,kD,kE]<;>(try simp [*]))|omega)
theorem Gx (l:Rl) (hl:l.length≤1152921504606846976) (s:St) (cx:Ctx):aj P0 (.fn (.func qV) [] []) [.s l] s cx=.ret (.b (Ip l)) s:=by
 refine Pn (by simp) ?_;obtain ⟨j,h⟩:=FX s ⟨s.length,s.length⟩ l hl l 0 rfl;have hb:(au l).length=l.length:=by simp [au]
 simp at h;simp [af,wO,hb,h]
 repeat' (first | (split<;>(try simp only [gm,gq,gB,kD,kE])<;>(try simp [*])) | (simp only [gm,gq,gB,kD,kE]<;>(try simp [*]))|omega)
@[simp] theorem acV (l:Rl) (s:St) (cx:Ctx):aj P0 (.fn (.func tJ) [] []) [.s l] s cx=.ret (.b (kwS l)) s:=by
 refine Ns (by simp) ?_;simp [af,vN]
 repeat' (first | (split<;>(try simp only [gm,gq,gB,kD,kE])<;>(try simp [*])) | (simp only [gm,gq,gB,kD,kE]<;>(try simp [*]))|omega)
 all_goals first|rfl|simp [kwS,keywords, *]
theorem Bg (l:Rl) (hl:l.length≤1152921504606846976) (s:St) (cx:Ctx):aj P0 (.fn (.func qU) [] []) [.s l] s cx=.ret (.b (AP l)) s:=by
 refine Pm (by simp) ?_
 cases l with
 | nil=>simp [af,sV,AP]
 | cons b r=>
  have e1:=Gx _ hl;simp [af,sV,e1,AP,akC]
  repeat' (first | (split<;>(try simp only [gm,gq,gB,kD,kE])<;>(try simp [*])) | (simp only [gm,gq,gB,kD,kE]<;>(try simp [*]))|omega)
theorem Bh (l:Rl) (hl:l.length≤1152921504606846976) (s:St) (cx:Ctx):aj P0 (.fn (.func lU) [] []) [.s l] s cx=.ret (.b (MF l)) s:=by
 refine H6 (by simp) ?_
 cases l with
 | nil=>simp [af,ng,MF]
 | cons b r=>
  have e1:=Gx _ hl;simp [af,ng,e1,MF]
  repeat' (first | (split<;>(try simp only [gm,gq,gB,kD,kE])<;>(try simp [*])) | (simp only [gm,gq,gB,kD,kE]<;>(try simp [*]))|omega)
@[simp] theorem acT (l:Rl) (s:St) (cx:Ctx):aj P0 (.fn (.func lF) [] []) [.s l] s cx=.ret (.b (oL l)) s:=by
 refine Nj (by simp) ?_;by_cases hl:l.length≤24
 ·have hn:¬((24:Int)<l.length):=by omega
  cases hc:lD 58 l with
  | none=>
   have hcut:=zn l 58 (by omega);rw [hc] at hcut;simp only [] at hcut;have e1:=Bg l (by omega);simp [af,nR,hcut,hn,e1,oL,hc,hl]
   repeat' (first | (split<;>(try simp only [gm,gq,gB,kD,kE])<;>(try simp [*])) | (simp only [gm,gq,gB,kD,kE]<;>(try simp [*]))|omega)
  | some p=>
   obtain ⟨x,y⟩:=p;have hcut:=zn l 58 (by omega);rw [hc] at hcut;simp only [] at hcut
   have:=wF hc
   have hx:x.length≤1152921504606846976:=by have:=congrArg List.length this;simp at this;omega
   have hy:y.length≤1152921504606846976:=by have:=congrArg List.length this;simp at this;omega
   clear this;have e1:=Bg x hx;have e2:=Bg y hy;simp [af,nR,hcut,hn,e1,e2,oL,hc,hl]
   repeat' (first | (split<;>(try simp only [gm,gq,gB,kD,kE])<;>(try simp [*])) | (simp only [gm,gq,gB,kD,kE]<;>(try simp [*]))|omega)
 ·have hn:(24:Int)<l.length:=by omega
  simp [af,nR,hn,oL,hl]
theorem Iz (c:C) (hps:c.parts.length≤1152921504606846976) (d m:Int) (hd:d≤1000) (hd':-1000≤d) (hm:0≤m) (hm':m≤100000)
  (ih:∀p∈c.parts,∀(d m:Int),d≤1000→-1001≤d→0≤m→m≤100000→
   ∃v:Int,(∀s cx,aj P0 (.fn (.func qj) [] []) [aJ p,.i .i64 d,.i .i64 m] s cx=.ret (.i .i64 v) s)∧1≤v∧v≤m+1152921504606846976∧(v≤m→wC p≤v)):
  ∀(rest:List C) (i:Nat) (n:Int),c.parts.drop i=rest→1≤n→n≤m+1152921504606846976→
  ∃v j:Int,(∀s cx,gU (aC P0.glob (aj P0) cx false o8) [1,2,3,7,8] [(1,.v (.i .i64 d)),(2,.v (.i .i64 m)),(3,.bx (aJ c).cells),(7,.v (.i .i64 n)),(8,.v (.i .i64 i))] s=
   .exit 0 [(1,.v (.i .i64 d)),(2,.v (.i .i64 m)),(3,.bx (aJ c).cells),(7,.v (.i .i64 v)),(8,.v (.i .i64 j)),(27,.v (.b false))] s)∧
   1≤v∧v≤m+1152921504606846976∧(v≤m→n+wL rest≤v)
 | [],i,n,h,hn,hn'=>by
  have h1:¬i<c.parts.length:=Nat.not_lt.2 (drop_nil h);refine ⟨n,i,fun s cx=>ak fun K hK=>?_,hn,hn',fun _=>by simp [wL]⟩;simp [o8,h1]
 | p::r,i,n,h,hn,hn'=>by
  obtain ⟨h1,h2,h3,h4⟩:=drop_cons h;have h5:=h4 h3;have hp:p∈c.parts:=by rw [←h5];exact List.getElem_mem h3
  have hw:=wI (i:=i) (by omega);by_cases hnm:n≤m
  ·obtain ⟨v',e1,q1,q2,q3⟩:=ih p hp (d - 1) (m - n) (by omega) (by omega) (by omega) (by omega);obtain ⟨v,j,ih2,r1,r2,r3⟩:=Iz c hps d m hd hd' hm hm' ih r (i+1) (n+v') h2 (by omega) (by omega);refine ⟨v,j,fun s cx=>ak fun K hK=>?_,r1,r2,fun hv=>?_⟩
   ·have ih2:=ih2 s cx;rw [←hK,show ((i+1:Nat):Int)=(i:Int)+1 from rfl] at ih2;clear hK h4 ih;have w1:IntKind.i64.wrap (d - 1)=d - 1:=w64 (by omega) (by omega);have w2:IntKind.i64.wrap (m - n)=m - n:=w64 (by omega) (by omega);have w3:IntKind.i64.wrap (n+v')=n+v':=w64 (by omega) (by omega);simp at ih2;simp [o8,h3,h5,hnm,w1,w2,w3,hw,e1,ih2]
   ·have:=r3 hv;simp only [wL];have:=q3 (by omega);omega
  ·refine ⟨n,i,fun s cx=>ak fun K hK=>?_,hn,hn',fun hv=>by omega⟩;simp [o8,h3,hnm]
theorem TV:∀(c:C),c.Ok→∀(d m:Int),d≤1000→-1001≤d→0≤m→m≤100000→
  ∃v:Int,(∀s cx,aj P0 (.fn (.func qj) [] []) [aJ c,.i .i64 d,.i .i64 m] s cx=.ret (.i .i64 v) s)∧1≤v∧v≤m+1152921504606846976∧(v≤m→wC c≤v):=by
 refine C.ind' fun c ih hok d m hd hd' hm hm'=>?_
 cases hok with
 | mk _ hn hps hk hl hh hp=>
  by_cases h0:d≤0
  ·have w1:IntKind.i64.wrap (m+1)=m+1:=w64 (by omega) (by omega);refine ⟨m+1,fun s cx=>Gg (by simp) ?_,by omega,by omega,by omega⟩;simp [af,uQ,h0,w1]
  ·have hdiv:((c.name.length:Int).tdiv 40)=((c.name.length / 40:Nat):Int):=by rw [Int.tdiv_eq_ediv_of_nonneg (by omega)];omega
   have w1:IntKind.i64.wrap ((c.name.length / 40:Nat):Int)=((c.name.length / 40:Nat):Int):=w64 (by omega) (by omega);have w2:IntKind.i64.wrap (1+((c.name.length / 40:Nat):Int))=1+((c.name.length / 40:Nat):Int):=w64 (by omega) (by omega);obtain ⟨v,j,h,r1,r2,r3⟩:=Iz c hps d m hd (by omega) hm hm' (fun p hp'=>ih p hp' (hp p hp')) c.parts 0 (1+((c.name.length / 40:Nat):Int)) rfl (by omega) (by omega);refine ⟨v,fun s cx=>Gg (by simp) ?_,r1,r2,fun hv=>?_⟩
   ·simp at h;rw [show ((c.name.length / 40:Nat):Int)=(c.name.length:Int) / 40 from by omega] at hdiv w1 w2;simp [af,uQ,h0,hdiv,w1,w2,h]
   ·have:=r3 hv;rw [EH];omega
theorem OL (c:C) (h:c.Ok):∃b:Bool,(∀s cx,aj P0 (.fn (.func xG) [] []) [aJ c] s cx=.ret (.b b) s)∧(b=true→wC c≤150):=by
 obtain ⟨v,e,r1,r2,r3⟩:=TV c h 40 150 (by omega) (by omega) (by omega) (by omega);refine ⟨decide (v≤150),fun s cx=>?_,fun hv=>by simp at hv;have:=r3 hv;omega⟩;refine Wh (by simp) ?_;simp [af,Ag,e]
def kS (c:C):Bool:=
 let plain:=decide (c.lo=0) && decide (c.hi=0)
 if c.kind=1 then plain && decide (c.name=[]) && decide ((c.parts.length:Int)=0)
 else if c.kind=2 then plain && decide (c.name=[]) && decide ((c.parts.length:Int)=0)
 else if c.kind=3 then plain && decide ((c.parts.length:Int)=0)
 else if c.kind=4 then plain && decide ((c.parts.length:Int)=0)
 else if c.kind=5 then plain && decide (c.name=[]) && decide ((2:Int)≤c.parts.length) && decide ((c.parts.length:Int)≤8)
 else if c.kind=6 then plain && decide ((c.parts.length:Int)=1)
 else if c.kind=7 then decide ((c.parts.length:Int)=0) && decide (-1099511627776≤c.lo) && decide (c.lo≤c.hi) && decide (c.hi≤1099511627776)
 else false
def uf (c:C):Bool:=
 if c.kind=3 then oL c.name
 else if c.kind=6 then oL c.name
 else if c.kind=7 then oL c.name
 else if c.kind=4 then oL c.name || MF c.name
 else true
mutual
def iH:C→Int
 | .mk k n l h z ps=>if kS (.mk k n l h z ps)=false then 21 else if uf (.mk k n l h z ps)=false then 20 else rM ps
def rM:List C→Int
 | []=>0
 | p::r=>if iH p=0 then rM r else iH p
end
theorem CZ (c:C):iH c=if kS c=false then 21 else if uf c=false then 20 else rM c.parts:=by cases c;simp [iH]
def ve (c:C):Int:=if 8<yX c∨64<nY c then 21 else iH c
def sF (c:C):Int:=if kS c=false then 21 else if uf c=false then 20 else 0
theorem ZC:P0.glob CW=some [.i .i64 0,.i .i64 0,.i .i64 0,.b false,.i .i64 0,.i .i64 0,.i .i64 0,.b false,.i .i64 0,.i .i64 0,.i .i64 0,.b false,.i .i64 1,.i .i64 0,.i .i64 0,.b false,.i .i64 2,.i .i64 0,.i .i64 0,.b false,.i .i64 0,.i .i64 2,.i .i64 8,.b false,.i .i64 1,.i .i64 1,.i .i64 1,.b false,.i .i64 1,.i .i64 0,.i .i64 0,.b true]:=rfl
theorem Ij (c:C) (hn:c.name.length≤1152921504606846976) (s:St) (cx:Ctx):aj P0 (.fn (.func nG) [] []) [aJ c] s cx=.ret (.i .i64 (sF c)) s:=by
 refine Gf (by simp) ?_;have e1:=Bh c.name hn;by_cases h0:c.kind<1
 ·have:kS c=false:=by simp [kS,show ¬c.kind=1 by omega,show ¬c.kind=2 by omega,show ¬c.kind=3 by omega,show ¬c.kind=4 by omega,show ¬c.kind=5 by omega,show ¬c.kind=6 by omega,show ¬c.kind=7 by omega]
  simp [af,kJ,h0,sF,this]
 by_cases h8:7<c.kind
 ·have:kS c=false:=by simp [kS,show ¬c.kind=1 by omega,show ¬c.kind=2 by omega,show ¬c.kind=3 by omega,show ¬c.kind=4 by omega,show ¬c.kind=5 by omega,show ¬c.kind=6 by omega,show ¬c.kind=7 by omega]
  simp [af,kJ,h0,h8,sF,this]
 have hk:c.kind=1∨c.kind=2∨c.kind=3∨c.kind=4∨c.kind=5∨c.kind=6∨c.kind=7:=by omega
 rcases hps:c.parts with _|⟨a,_|⟨b,r⟩⟩<;>rcases hk with hk|hk|hk|hk|hk|hk|hk
 all_goals
  clear h0 h8;simp [af,kJ,hk,ZC,sF,kS,uf,hps]
  repeat' (first | (split<;>(try simp only [gm,gq,gB,kD,kE])<;>(try simp [*])) | (simp only [gm,gq,gB,kD,kE]<;>(try simp [*]))|omega)
mutual
def yC:C→Nat→Nat→Bool×Nat
 | .mk _ _ _ _ _ ps,d,n=>if 8<d∨64<n+1 then (false,n+1) else Ej ps d (n+1)
def Ej:List C→Nat→Nat→Bool×Nat
 | [],_,n=>(true,n)
 | p::r,d,n=>if (yC p (d+1) n).1=true then Ej r d (yC p (d+1) n).2 else (false,(yC p (d+1) n).2)
end
theorem LD (c:C) (d n:Nat):yC c d n=if 8<d∨64<n+1 then (false,n+1) else Ej c.parts d (n+1):=by cases c;simp [yC]
theorem agD:∀(c:C) (d n:Nat),n≤64→(yC c d n).2≤65∧((yC c d n).1=true→(yC c d n).2≤64):=by
 refine C.ind' fun c ih d n hn=>?_
 have hL:∀(l:List C),(∀p∈l,∀(d n:Nat),n≤64→(yC p d n).2≤65∧((yC p d n).1=true→(yC p d n).2≤64))→∀n,n≤64→(Ej l d n).2≤65∧((Ej l d n).1=true→(Ej l d n).2≤64):=by
  intro l
  induction l with
  | nil=>intro _ n hn;simp [Ej];omega
  | cons p r ih=>
   intro h n hn;have h1:=h p (by simp) (d+1) n hn;simp only [Ej];split
   ·rename_i ht;exact ih (fun q hq=>h q (by simp [hq])) _ (h1.2 ht)
   ·exact ⟨h1.1,by simp⟩
 rw [LD];split
 ·exact ⟨by simp;omega,by simp⟩
 ·exact hL c.parts ih _ (by omega)
theorem agE:∀(c:C) (d n:Nat),n≤64→((yC c d n).1=true ↔ d+yX c≤8∧n+nY c≤64)∧((yC c d n).1=true→(yC c d n).2=n+nY c):=by
 refine C.ind' fun c ih d n hn=>?_
 have hL:∀(l:List C),(∀p∈l,∀(d n:Nat),n≤64→((yC p d n).1=true ↔ d+yX p≤8∧n+nY p≤64)∧((yC p d n).1=true→(yC p d n).2=n+nY p))→∀n,n≤64→d≤8→
   ((Ej l d n).1=true ↔ d+En l≤8∧n+zQ l≤64)∧((Ej l d n).1=true→(Ej l d n).2=n+zQ l):=by
  intro l
  induction l with
  | nil=>intro _ n hn hd;simp [Ej,En,zQ];omega
  | cons p r ih=>
   intro h n hn hd;have h1:=h p (by simp) (d+1) n hn;simp only [Ej,En,zQ];by_cases ht:(yC p (d+1) n).1=true
   ·have h2:=h1.2 ht;have h3:=h1.1.1 ht;rw [if_pos ht];have h4:=ih (fun q hq=>h q (by simp [hq])) (yC p (d+1) n).2 (by omega) hd;rw [h2] at h4 ⊢;refine ⟨h4.1.trans ⟨fun h=>⟨by omega,by omega⟩,fun h=>⟨by omega,by omega⟩⟩,fun h=>by rw [h4.2 h];omega⟩
   ·rw [if_neg ht];refine ⟨⟨fun h=>by simp at h,fun h=>absurd (h1.1.2 ⟨by omega,by omega⟩) ht⟩,fun h=>by simp at h⟩
 rw [LD,Nw,Df];have hL:=hL c.parts ih;split
 ·rename_i h;refine ⟨⟨fun h=>by simp at h,fun h=>by omega⟩,fun h=>by simp at h⟩
 ·have:=hL (n+1) (by omega) (by omega)
  refine ⟨this.1.trans ⟨fun h=>⟨by omega,by omega⟩,fun h=>⟨by omega,by omega⟩⟩,fun h=>by rw [this.2 h];omega⟩
theorem Qm {T:St} {l:Nat} {v:fQ} (h:T[l]?=some v):T.set l v=T:=by
 obtain ⟨h1,h2⟩:=List.getElem?_eq_some_iff.1 h;rw [←h2];exact List.set_getElem_self h1
inductive C.Lng:C→Prop where
 | mk (c:C) (hn:c.name.length≤1152921504606846976) (hps:c.parts.length≤1152921504606846976) (hp:∀p∈c.parts,C.Lng p):C.Lng c
theorem C.Lng.n {c:C} (h:C.Lng c):c.name.length≤1152921504606846976:=by cases h;assumption
theorem C.Lng.ps {c:C} (h:C.Lng c):c.parts.length≤1152921504606846976:=by cases h;assumption
theorem C.Lng.sub {c:C} (h:C.Lng c):∀p∈c.parts,C.Lng p:=by cases h;assumption
theorem C.Ok.lng {c:C} (h:C.Ok c):C.Lng c:=by
 induction h with
 | mk c hn hps _ _ _ _ ih=>exact .mk c hn hps ih
theorem ahl:∀c:C,wC c≤100000→C.Lng c:=by
 refine C.ind' fun c ih hw=>?_;have hl:=Qc c.parts;rw [EH] at hw;exact .mk c (by omega) (by omega) fun p hp=>ih p hp (by have:=Mc hp;omega)
theorem KU (c:C) (hw:C.Lng c) (cx:Ctx) (l:Nat) (hcl:cx.lim≤l) (d:Nat) (hd:d≤8)
  (ih:∀p∈c.parts,∀(d n:Nat) (s:St) (cx:Ctx),d≤100→n≤64→cx.lim≤l→s[l]?=some (.cells [.i .i64 n])→
   aj P0 (.fn (.func sQ) [] []) [aJ p,.i .i64 d,.pt l 0] s cx=.ret (.b (yC p d n).1) (s.set l (.cells [.i .i64 (yC p d n).2]))):
  ∀(rest:List C) (i:Nat) (n:Nat) (s:St),n≤64→s[l]?=some (.cells [.i .i64 n])→c.parts.drop i=rest→
  ∃j:Int,gU (aC P0.glob (aj P0) cx false qK) [1,2,23,24,25] [(1,.v (.i .i64 d)),(2,.v (.pt l 0)),(23,.v (slf c.z (c.parts.map aJ))),(24,.v (.i .i64 c.parts.length)),(25,.v (.i .i64 i))] s=
   if (Ej rest d n).1=true then .exit 0 [(1,.v (.i .i64 d)),(2,.v (.pt l 0)),(23,.v (slf c.z (c.parts.map aJ))),(24,.v (.i .i64 c.parts.length)),(25,.v (.i .i64 j)),(26,.v (.b false))] (s.set l (.cells [.i .i64 (Ej rest d n).2]))
   else .ret [(6,.v (.b false))] (s.set l (.cells [.i .i64 (Ej rest d n).2]))
 | [],i,n,s,hn,hs,h=>by
  have h1:¬i<c.parts.length:=Nat.not_lt.2 (drop_nil h);refine ⟨i,ak fun K hK=>?_⟩;simp [qK,h1,Ej,Qm hs]
 | p::r,i,n,s,hn,hs,h=>by
  obtain ⟨h1,h2,h3,h4⟩:=drop_cons h;have h5:=h4 h3;have hp:p∈c.parts:=by rw [←h5];exact List.getElem_mem h3
  have hwi:=wI (i:=i) (by have:=hw.ps;omega);have hlt:l<s.length:=(List.getElem?_eq_some_iff.1 hs).1;have e1:=ih p hp (d+1) n s cx (by omega) hn hcl hs;have w1:IntKind.i64.wrap ((d:Int)+1)=(d:Int)+1:=w64 (by omega) (by omega);simp at e1;by_cases ht:(yC p (d+1) n).1=true
  ·have hle:=(agD p (d+1) n hn).2 ht;obtain ⟨j,ih2⟩:=KU c hw cx l hcl d hd ih r (i+1) (yC p (d+1) n).2 (s.set l (.cells [.i .i64 (yC p (d+1) n).2])) hle (by simp [hlt]) h2;refine ⟨j,ak fun K hK=>?_⟩;rw [←hK] at ih2;clear hK h4 ih;simp at ih2;simp [qK,h3,h5,hwi,w1,e1,ih2,Ej,ht]
  ·refine ⟨i,ak fun K hK=>?_⟩;clear hK h4 ih;simp [qK,h3,h5,hwi,w1,e1,Ej,ht]
theorem WH (l:Nat):∀(c:C),C.Lng c→∀(d n:Nat) (s:St) (cx:Ctx),d≤100→n≤64→cx.lim≤l→s[l]?=some (.cells [.i .i64 n])→
   aj P0 (.fn (.func sQ) [] []) [aJ c,.i .i64 d,.pt l 0] s cx=.ret (.b (yC c d n).1) (s.set l (.cells [.i .i64 (yC c d n).2])):=by
 refine C.ind' fun c ih hw d n s cx hd hn hcl hs=>?_;have hlt:l<s.length:=(List.getElem?_eq_some_iff.1 hs).1;have w1:IntKind.i64.wrap ((n:Int)+1)=(n:Int)+1:=w64 (by omega) (by omega);have hs':s[l]=.cells [.i .i64 n]:=(List.getElem?_eq_some_iff.1 hs).2;refine TJ (by simp) ?_;by_cases h8:(8:Int)<d
 ·simp [af,tV,hs',hlt,hcl,w1,h8,LD c,show 8<d by omega]
 by_cases h64:(64:Int)<(n:Int)+1
 ·simp [af,tV,hs',hlt,hcl,w1,h8,h64,LD c,show 64<n+1 by omega]
 ·obtain ⟨j,h⟩:=KU c hw ⟨cx.lim,s.length⟩ l hcl d (by omega) (fun p hp=>ih p hp (hw.sub p hp)) c.parts 0 (n+1) (s.set l (.cells [.i .i64 (n+1:Nat)])) (by omega) (by simp [hlt]) rfl;simp at h;have hcond:¬(8<d∨64<n+1):=by omega
  simp [af,tV,hs',hlt,hcl,w1,h8,h64,LD c,hcond,h]
  repeat' (first | (split<;>(try simp only [gm,gq,gB,kD,kE])<;>(try simp [*])) | (simp only [gm,gq,gB,kD,kE]<;>(try simp [*]))|omega)
def SA (a:Nat) (c:C):Env:=[(2,.v (.pt a 0)),(10,.v (.fn (.func jr) [] [.ip (aJ c).cells]))]
def sH (a:Nat) (c:C) (p:NQ):fQ:=.loop (SA a c) [11] l9 l7 p
theorem L9 (x:C) (a:Nat) {e':AV} (T:St) (cx:Ctx) (hb:cx.base≤T.length) (hlt:cx.lim≤T.length):
  aC P0.glob (aj P0) cx true l9 [(11,.v (aJ x)),(2,.v (.pt a 0)),(10,.v e')] T=.norm [(2,.v (.pt a 0)),(4,.v (.pt T.length 0))] (T++[.cells (aJ x).cells]):=by
 simp [l9,hb,hlt]
theorem L8 (x:C) (hx:x.name.length≤1152921504606846976) (a m:Nat) (v:AV) (S:St) (cx:Ctx) (hm:S[m]?=some (.cells (aJ x).cells)) (ha:S[a]?=some (.cells [v])) (hca:cx.lim≤a):
  aC P0.glob (aj P0) cx true l7 [(2,.v (.pt a 0)),(4,.v (.pt m 0))] S=
   if sF x=0 then .norm [(2,.v (.pt a 0)),(5,.v (.i .i64 (sF x))),(15,.v (.b false))] S else .ret [] (S.set a (.cells [.i .i64 (sF x)])):=by
 have e1:=Ij x hx;simp at hm
 by_cases h0:sF x=0<;>simp [l7,hm,ha,hca,e1,h0]
theorem P9 (c x:C) (hx:x.name.length≤1152921504606846976) (a l:Nat) (v:AV) (T:St) (cx:Ctx) (hl:T[l]?=some (sH a c .ready)) (ha:T[a]?=some (.cells [v])) (hcl:cx.lim≤l) (hca:cx.lim≤a) (hb:cx.base≤T.length) (hlt:cx.lim≤T.length):
  aj P0 (.yl l) [aJ x] T cx=if sF x=0 then .ret (.b true) (T++[.cells (aJ x).cells])
   else .ret (.b false) ((T.set a (.cells [.i .i64 (sF x)])).set l (sH a c .ret)++[.cells (aJ x).cells]):=by
 have hl1:l<T.length:=(List.getElem?_eq_some_iff.1 hl).1;have ha1:a<T.length:=(List.getElem?_eq_some_iff.1 ha).1;have hal:¬l=a:=by intro e;subst e;rw [hl] at ha;simp [sH] at ha
 have hl2:T[l]=sH a c .ready:=(List.getElem?_eq_some_iff.1 hl).2;have hA:=L9 (e':=.fn (.func jr) [] [.ip (aJ c).cells]) x a T cx hb hlt;have hR:=L8 x hx a T.length v (T.set l (sH a c .busy)++[.cells (aJ x).cells]) cx (by rw [List.getElem?_append_right (by simp)];simp) (by rw [List.getElem?_append_left (by simpa using ha1)];rw [List.getElem?_set_ne hal];exact ha) hca
 refine NM (by split<;>simp) ?_
 unfold IU;rw [hl];simp only [sH,SA,Dh,put,lk];simp at hA hR;have hset:=Qm hl;simp only [sH,SA] at hset hR;simp at hset hR;by_cases h0:sF x=0
 ·simp [hA,hcl,hl1,hR,h0,sG,hset,List.getElem?_append_left,hl2,sH,SA]
 ·simp [hA,hcl,hl1,hR,h0,sG,List.getElem?_append_left,hl2,sH,SA,ha1,Ne.symm hal,hal];rw [List.set_comm _ _ hal,List.set_set]
theorem Vm (x:C):iH x=if sF x=0 then rM x.parts else sF x:=by
 rw [CZ];unfold sF
 by_cases h1:kS x=false<;>by_cases h2:uf x=false<;>simp [h1,h2]
theorem Iy (c x:C) (hw:C.Lng x) (a l:Nat) (v:AV) (cx:Ctx) (T:St) (hl:T[l]?=some (sH a c .ready)) (ha:T[a]?=some (.cells [v])) (hcl:cx.lim≤l) (hca:cx.lim≤a)
  (ih:∀p∈x.parts,∀(T:St) (cx:Ctx),T[l]?=some (sH a c .ready)→T[a]?=some (.cells [v])→cx.lim≤l→cx.lim≤a→
   aj P0 (.fn (.func mr) [] []) [aJ p,.yl l] T cx=if iH p=0 then .ret (.b true) T else .ret (.b false) ((T.set a (.cells [.i .i64 (iH p)])).set l (sH a c .ret))):
  ∀(rest:List C) (i:Nat),x.parts.drop i=rest→
  ∃j:Int,gU (aC P0.glob (aj P0) cx false jL) [1,12,13,14] [(1,.v (.yl l)),(12,.v (slf x.z (x.parts.map aJ))),(13,.v (.i .i64 x.parts.length)),(14,.v (.i .i64 i))] T=
   if rM rest=0 then .exit 0 [(1,.v (.yl l)),(12,.v (slf x.z (x.parts.map aJ))),(13,.v (.i .i64 x.parts.length)),(14,.v (.i .i64 j)),(15,.v (.b false))] T
   else .ret [(4,.v (.b false))] ((T.set a (.cells [.i .i64 (rM rest)])).set l (sH a c .ret))
 | [],i,h=>by
  have h1:¬i<x.parts.length:=Nat.not_lt.2 (drop_nil h);refine ⟨i,ak fun K hK=>?_⟩;simp [jL,h1,rM]
 | p::r,i,h=>by
  obtain ⟨h1,h2,h3,h4⟩:=drop_cons h;have h5:=h4 h3;have hp:p∈x.parts:=by rw [←h5];exact List.getElem_mem h3
  have hwi:=wI (i:=i) (by have:=hw.ps;omega);have e1:=ih p hp T cx hl ha hcl hca;by_cases h0:iH p=0
  ·obtain ⟨j,ih2⟩:=Iy c x hw a l v cx T hl ha hcl hca ih r (i+1) h2;refine ⟨j,ak fun K hK=>?_⟩;rw [←hK] at ih2;clear hK h4 ih;simp at ih2;simp [jL,h3,h5,hwi,e1,ih2,rM,h0]
  ·refine ⟨i,ak fun K hK=>?_⟩;clear hK h4 ih;simp [jL,h3,h5,hwi,e1,rM,h0]
theorem TT (c:C) (a l:Nat) (v:AV):∀(x:C),C.Lng x→∀(T:St) (cx:Ctx),T[l]?=some (sH a c .ready)→T[a]?=some (.cells [v])→cx.lim≤l→cx.lim≤a→
   aj P0 (.fn (.func mr) [] []) [aJ x,.yl l] T cx=if iH x=0 then .ret (.b true) T else .ret (.b false) ((T.set a (.cells [.i .i64 (iH x)])).set l (sH a c .ret)):=by
 refine C.ind' fun x ih hw T cx hl ha hcl hca=>?_;have hl1:l<T.length:=(List.getElem?_eq_some_iff.1 hl).1;have ha1:a<T.length:=(List.getElem?_eq_some_iff.1 ha).1;have hy:=P9 c x hw.n a l v T ⟨cx.lim,T.length⟩ hl ha hcl hca (Nat.le_refl _) (by simp;omega)
 refine F9 (by split<;>simp) ?_
 simp at hy;by_cases h0:sF x=0
 ·obtain ⟨j,h⟩:=Iy c x hw a l v ⟨cx.lim,T.length⟩ (T++[.cells (aJ x).cells]) (by rw [List.getElem?_append_left hl1];exact hl) (by rw [List.getElem?_append_left ha1];exact ha) hcl hca
   (fun p hp T cx=>ih p hp (hw.sub p hp) T cx) x.parts 0 rfl
  simp at h;by_cases hz:rM x.parts=0
  ·simp [af,ou,hy,h0,h,hz,Vm x,frz,AV.under]
  ·simp [af,ou,hy,h0,h,hz,Vm x,frz,AV.under,ha1,hl1,List.set_append_left]
 ·simp [af,ou,hy,h0,Vm x,frz,AV.under,List.take_append_of_le_length]
theorem aaN (s r:St) (k:Nat):(s++r)[s.length+k]?=r[k]?:=by rw [List.getElem?_append_right (by omega)];congr 1;omega
theorem aaj (s r:St) (k:Nat) (v:fQ):(s++r).set (s.length+k) v=s++r.set k v:=by rw [List.set_append_right _ _ (by omega)];congr 2;omega
@[simp] theorem agP (c:C) (s:St) (cx:Ctx):aj P0 (.fn (.func vP) [] []) [aJ c] s cx=.ret (.fn (.func jr) [] [.ip (aJ c).cells]) s:=by
 refine TI (by simp) ?_;simp [af,zh,frz,Ak]
theorem yG (c:C) (hw:C.Lng c) (s:St) (cx:Ctx):aj P0 (.fn (.func kL) [] []) [aJ c] s cx=.ret (.i .i64 (ve c)) s:=by
 refine EW (by simp) ?_;have e1:=WH (s.length+1) c hw 0 0 (s++[.cells [.i .i64 0],.cells [.i .i64 0]]) ⟨s.length,s.length⟩ (by omega) (by omega) (by simp) (by simp);have hf:=agE c 0 0 (by omega);simp at e1;by_cases hfit:(yC c 0 0).1=true
 ·have hcond:¬(8<yX c∨64<nY c):=by have:=hf.1.1 hfit;omega
  let T:St:=s++[.cells [.i .i64 0],.cells [.i .i64 (yC c 0 0).2],.dfr,sH s.length c .ready]
  have hv:=TT c s.length (s.length+3) (.i .i64 0) c hw T ⟨s.length,T.length⟩ (by simp [T]) (by simp [T]) (by simp) (by simp)
  have hw1:aj P0 (.fn (.func jr) [] [.ip (aJ c).cells]) [.yl (s.length+3)] T ⟨s.length,s.length⟩=
    if iH c=0 then .ret (.tu []) T else .ret (.tu []) ((T.set s.length (.cells [.i .i64 (iH c)])).set (s.length+3) (sH s.length c .ret)):=by
   refine EL (by split<;>simp) ?_
   by_cases h0:iH c=0<;>simp [h0] at hv<;>simp [af,sU,hv,h0]
  simp [T] at hw1;by_cases h0:iH c=0
  ·simp [h0,sH,SA] at hw1;simp [af,jV,e1,hfit,Fj,hw1,ve,hcond,h0,D9,show s.length+2+1=s.length+3 from rfl,aaN,aaj]
  ·simp [h0,sH,SA] at hw1;simp [af,jV,e1,hfit,Fj,hw1,ve,hcond,h0,D9,show s.length+2+1=s.length+3 from rfl,aaN,aaj]
 ·have hcond:(8<yX c∨64<nY c):=by
   rcases Nat.lt_or_ge 8 (yX c) with h|h
   ·exact .inl h
   ·rcases Nat.lt_or_ge 64 (nY c) with h' | h'
    ·exact .inr h'
    ·exact absurd (hf.1.2 ⟨by omega,by omega⟩) hfit
  simp [af,jV,e1,hfit,ve,hcond]
end Go.Ai.Z
namespace Go.Ai.Z
open Go.Lib (itoa decDigits)
def amM:Rl:=[32,97,110,100,32]
mutual
def textS:C→Rl
 | .mk k n lo hi _ ps=>
  if k=1 then wD4
  else if k=2 then [110,111,116,104,105,110,103]
  else if k=3 then n
  else if k=4 then 123::(n++[125])
  else if k=7 then n++[32,105,110,32]++itoa lo++[32,116,111,32]++itoa hi
  else if k=6 then [115,111,109,101,32]++n++[32]++(ah5 ps).headD []
  else joinL amM (ah5 ps)
def ah5:List C→List Rl
 | []=>[]
 | .mk k n lo hi z ps::r=>(if k=5 then 40::(textS (.mk k n lo hi z ps)++[41]) else textS (.mk k n lo hi z ps))::ah5 r
end
theorem J4 {c:C} (h:iH c=0):kS c=true∧uf c=true∧∀p∈c.parts,iH p=0:=by
 rw [CZ] at h;by_cases h1:kS c=true
 ·by_cases h2:uf c=true
  ·simp [h1,h2] at h;refine ⟨h1,h2, ?_⟩;generalize c.parts=l at h
   induction l with
   | nil=>intro p hp;cases hp
   | cons a r ih=>
    simp only [rM] at h;intro p hp;by_cases h0:iH a=0
    ·rw [if_pos h0] at h;rcases List.mem_cons.1 hp with rfl|hp
     ·exact h0
     ·exact ih h p hp
    ·rw [if_neg h0] at h;exact absurd h h0
  ·simp [h1,h2] at h
 ·simp [h1] at h
theorem I4 {c:C} (h:kS c=true):c.kind=1∨c.kind=2∨c.kind=3∨c.kind=4∨c.kind=7∧-1099511627776≤c.lo∧c.lo≤c.hi∧c.hi≤1099511627776∨c.kind=6∧c.parts.length=1∨c.kind=5∧2≤c.parts.length:=by
 unfold kS at h;by_cases k1:c.kind=1
 ·exact .inl k1
 by_cases k2:c.kind=2
 ·exact .inr (.inl k2)
 by_cases k3:c.kind=3
 ·exact .inr (.inr (.inl k3))
 by_cases k4:c.kind=4
 ·exact .inr (.inr (.inr (.inl k4)))
 by_cases k5:c.kind=5
 ·simp [k5] at h;exact .inr (.inr (.inr (.inr (.inr (.inr ⟨k5,by omega⟩)))))
 by_cases k6:c.kind=6
 ·simp [k6] at h;exact .inr (.inr (.inr (.inr (.inr (.inl ⟨k6,by omega⟩)))))
 by_cases k7:c.kind=7
 ·simp [k7] at h;exact .inr (.inr (.inr (.inr (.inl ⟨k7,by omega,by omega,by omega⟩))))
 ·simp [k1,k2,k3,k4,k5,k6,k7] at h
theorem Dz (l:List Rl) (sep:Rl):(joinL sep l).length≤(l.map fun x=>x.length+sep.length).sum:=by
 cases l with
 | nil=>simp [joinL]
 | cons x r=>
  simp only [joinL,List.length_append,List.length_flatMap,List.map_cons,List.sum_cons]
  have:(r.map fun y=>sep.length+y.length)=r.map fun x=>x.length+sep.length:=by
   apply List.map_congr_left;intro y _;omega
  rw [this];omega
end Go.Ai.Z
namespace Go.Ai.Z
open Go.Lib (itoa)
theorem kd {x j:Int} (k:x=j):decide (x=j)=true:=by simp [k]
theorem kn {x j:Int} (i:Int) (k:x=j) (h:decide (j=i)=false):decide (x=i)=false:=by rw [k];exact h
end Go.Ai.Z
namespace Go.Ai.Z
open Go.Lib (itoa)
attribute [local simp] find jF uH
theorem ako (l:List Rl):l.mapM (strOf ∘ AV.s)=some l:=by
 induction l with
 | nil=>rfl
 | cons a r ih=>simp [strOf,ih]
theorem Gy (l:List Rl) (sep:Rl) (h:(joinL sep l).length≤1048576) (h':l.length≤1048576) (s:St) (cx:Ctx):aj P0 (.fn (.func yw) [] []) [.sl (l.map .s),.s sep] s cx=.ret (.s (joinL sep l)) s:=
 sK (h:=Iu XZ) rfl (by simp [XZ,ako,h,h'])
theorem SH (n:Int) (h:-9223372036854775808≤n) (h':n≤9223372036854775807) (s:St) (cx:Ctx):aj P0 (.fn (.func Bv) [] []) [.i .i64 n] s cx=.ret (.s (itoa n)) s:=
 sK (h:=Iu X0) rfl (by simp [X0,h,h'])
end Go.Ai.Z
namespace Go.Ai.Z
structure Ax where
 kind:Int
 op:Bool
 left:C
 right:C
 z:Bool
 roles:List Rl
 role:Rl
 a:Rl
 b:Rl
def cellsA (x:Ax):List AV:=[.i .i64 x.kind,.b x.op,.i .i64 x.left.kind,.s x.left.name,.i .i64 x.left.lo,.i .i64 x.left.hi,slf x.left.z (x.left.parts.map aJ),
 .i .i64 x.right.kind,.s x.right.name,.i .i64 x.right.lo,.i .i64 x.right.hi,slf x.right.z (x.right.parts.map aJ),slf x.z (x.roles.map .s),.s x.role,.s x.a,.s x.b]
def cu (x:Ax):AV:=.ag (cellsA x)
@[simp] theorem ah0 (x:Ax):(cu x).plain=cu x:=by simp [cu,cellsA]
@[simp] theorem ais (x:Ax):(cu x).cells=[.i .i64 x.kind,.b x.op,.i .i64 x.left.kind,.s x.left.name,.i .i64 x.left.lo,.i .i64 x.left.hi,slf x.left.z (x.left.parts.map aJ),
 .i .i64 x.right.kind,.s x.right.name,.i .i64 x.right.lo,.i .i64 x.right.hi,slf x.right.z (x.right.parts.map aJ),slf x.z (x.roles.map .s),.s x.role,.s x.a,.s x.b]:=rfl
@[simp] theorem acu (x:Ax):AV.ag [.i .i64 x.kind,.b x.op,.i .i64 x.left.kind,.s x.left.name,.i .i64 x.left.lo,.i .i64 x.left.hi,slf x.left.z (x.left.parts.map aJ),
 .i .i64 x.right.kind,.s x.right.name,.i .i64 x.right.lo,.i .i64 x.right.hi,slf x.right.z (x.right.parts.map aJ),slf x.z (x.roles.map .s),.s x.role,.s x.a,.s x.b]=cu x:=rfl
def emptyS (c:C):Bool:=decide (c.kind=0) && decide (c.name=[]) && decide (c.lo=0) && decide (c.hi=0) && decide ((c.parts.length:Int)=0)
@[simp] theorem acU (c:C) (s:St) (cx:Ctx):aj P0 (.fn (.func oQ) [] []) [aJ c] s cx=.ret (.b (emptyS c)) s:=by
 refine Nl (by simp) ?_;simp [af,vH,emptyS]
 repeat' (first | (split<;>(try simp only [gm,gq,gB,kD,kE])<;>(try simp [*])) | (simp only [gm,gq,gB,kD,kE]<;>(try simp [*]))|omega)
theorem Cc (l:Rl) (hl:l.length≤1152921504606846976) (s:St) (cx:Ctx):aj P0 (.fn (.func jO) [] []) [.s l] s cx=.ret (.i .i64 (if (oL l || MF l)=true then 0 else 20)) s:=by
 refine Jy (by simp) ?_;have e1:=Bh l hl
 rcases Bool.eq_false_or_eq_true (oL l) with h1|h1<;>rcases Bool.eq_false_or_eq_true (MF l) with h2|h2<;>simp [af,rZ,e1,h1,h2]
structure Use where
 l:Bool
 r:Bool
 role:Bool
 a:Bool
 b:Bool
 lo:Int
 hi:Int
def kH (k:Int):Use:=
 if k=1 then ⟨true,true,false,false,false,0,0⟩ else if k=2 then ⟨true,true,false,false,false,0,0⟩ else if k=3 then ⟨true,true,false,false,false,0,0⟩
 else if k=4 then ⟨false,true,true,false,false,0,0⟩ else if k=5 then ⟨false,false,true,false,false,1,1⟩ else if k=6 then ⟨false,false,true,false,false,2,4⟩
 else if k=7 then ⟨false,false,true,false,false,0,0⟩ else if k=8 then ⟨false,true,false,true,false,0,0⟩ else if k=9 then ⟨false,false,true,true,true,0,0⟩ else ⟨false,false,false,false,false,0,0⟩
def ZI (u:Use):AV:=.ag [.b u.l,.b u.r,.b u.role,.b u.a,.b u.b,.i .i64 u.lo,.i .i64 u.hi]
@[simp] theorem ahY (u:Use):(ZI u).plain=ZI u:=by simp [ZI]
@[simp] theorem aiq (u:Use):(ZI u).cells=[.b u.l,.b u.r,.b u.role,.b u.a,.b u.b,.i .i64 u.lo,.i .i64 u.hi]:=rfl
@[simp] theorem ai5 (u:Use):AV.ag [.b u.l,.b u.r,.b u.role,.b u.a,.b u.b,.i .i64 u.lo,.i .i64 u.hi]=ZI u:=rfl
def YT:List AV:=(P0.glob yu).getD []
theorem Nu:P0.glob yu=some YT:=rfl
theorem Qd:YT.length=70:=rfl
theorem aaf {k:Int} (h1:1≤k) (h9:k≤9):(YT.drop (k.toNat * 7)).take 7=[.b (kH k).l,.b (kH k).r,.b (kH k).role,.b (kH k).a,.b (kH k).b,.i .i64 (kH k).lo,.i .i64 (kH k).hi]:=by
 have:k=1∨k=2∨k=3∨k=4∨k=5∨k=6∨k=7∨k=8∨k=9:=by omega
 rcases this with rfl|rfl|rfl|rfl|rfl|rfl|rfl|rfl|rfl<;>rfl
def CU (x:Ax):Bool:=decide (1≤x.kind) && decide (x.kind≤9)
def oZ (x:Ax):Bool:=CU x && ((kH x.kind).l || emptyS x.left) && ((kH x.kind).r || emptyS x.right) && ((kH x.kind).role || decide (x.role=[])) && ((kH x.kind).a || decide (x.a=[])) && ((kH x.kind).b || decide (x.b=[])) &&
 decide ((kH x.kind).lo≤x.roles.length) && decide ((x.roles.length:Int)≤(kH x.kind).hi)
set_option maxHeartbeats 2000000 in
@[simp] theorem acM (x:Ax) (s:St) (cx:Ctx):aj P0 (.fn (.func qW) [] []) [cu x] s cx=.ret (.b (oZ x)) s:=by
 refine Ld (by simp) ?_;by_cases h1:x.kind<1
 ·simp [af,mO,h1,oZ,CU,show ¬(1≤x.kind) by omega]
 by_cases h9:9<x.kind
 ·simp [af,mO,h1,h9,oZ,CU,show ¬(x.kind≤9) by omega]
 have b1:0≤x.kind:=by omega
 have b2:x.kind.toNat<10:=by omega
 have b3:7≤70 - x.kind.toNat * 7:=by omega
 have hu:=aaf (k:=x.kind) (by omega) (by omega);have hk:CU x=true:=by simp [CU];omega
 unfold oZ;rw [hk];have hk9:x.kind=1∨x.kind=2∨x.kind=3∨x.kind=4∨x.kind=5∨x.kind=6∨x.kind=7∨x.kind=8∨x.kind=9:=by omega
 clear hk;rcases hk9 with k|k|k|k|k|k|k|k|k
 all_goals
  have ku:=congrArg kH k;rw [ku] at hu ⊢;clear ku k;simp [kH] at hu ⊢;simp [af,mO,h1,h9,b1,b2,b3,Nu,Qd,hu];clear hu b1 b2 b3 h1 h9
  repeat' (first | (split<;>(try simp only [gm,gq,gB,kD,kE])<;>(try simp [*])) | (simp only [gm,gq,gB,kD,kE]<;>(try simp [*]))|omega)
def allPlain:List Rl→Bool
 | []=>true
 | r::l=>oL r && allPlain l
def y8 (l:Rl):Bool:=oL l || MF l
def CQ (x:Ax) (u:Use):Bool:=(!u.role || oL x.role) && (!u.a || y8 x.a) && (!u.b || y8 x.b) && allPlain x.roles
theorem EK (s:St) (cx:Ctx) (z:Bool) (l:List Rl) (hl:l.length≤1152921504606846976):∀(rest:List Rl) (i:Nat),l.drop i=rest→
  ∃j:Int,gU (aC P0.glob (aj P0) cx false qB) [36,37,38] [(36,.v (slf z (l.map .s))),(37,.v (.i .i64 l.length)),(38,.v (.i .i64 i))] s=
   if allPlain rest=true then .exit 0 [(36,.v (slf z (l.map .s))),(37,.v (.i .i64 l.length)),(38,.v (.i .i64 j)),(39,.v (.b false))] s else .ret [(4,.v (.b false))] s
 | [],i,h=>by
  have h1:¬i<l.length:=Nat.not_lt.2 (drop_nil h);refine ⟨i,ak fun K hK=>?_⟩;simp [qB,h1,allPlain]
 | b::r,i,h=>by
  obtain ⟨h1,h2,h3,h4⟩:=drop_cons h;have h5:=h4 h3;have hw:=wI (i:=i) (by omega);obtain ⟨j,ih⟩:=EK s cx z l hl r (i+1) h2;refine ⟨j,ak fun K hK=>?_⟩;rw [←hK,show ((i+1:Nat):Int)=(i:Int)+1 from rfl] at ih;clear hK h4
  rcases Bool.eq_false_or_eq_true (oL b) with hin|hin <;>
   simp [qB,h3,h5,hw,ih,allPlain,hin]
set_option maxHeartbeats 1000000 in
theorem Pz (x:Ax) (u:Use) (hl:x.roles.length≤1152921504606846976) (ha:x.a.length≤1152921504606846976) (hb:x.b.length≤1152921504606846976) (s:St) (cx:Ctx):
  aj P0 (.fn (.func tC) [] []) [cu x,ZI u] s cx=.ret (.b (CQ x u)) s:=by
 refine Nk (by simp) ?_;obtain ⟨j,h⟩:=EK s ⟨s.length,s.length⟩ x.z x.roles hl x.roles 0 rfl;have e1:∀(s:St) (cx:Ctx),aj P0 (.fn (.func jO) [] []) [.s x.a] s cx=.ret (.i .i64 (if y8 x.a=true then 0 else 20)) s:=Cc x.a ha;have e2:∀(s:St) (cx:Ctx),aj P0 (.fn (.func jO) [] []) [.s x.b] s cx=.ret (.i .i64 (if y8 x.b=true then 0 else 20)) s:=Cc x.b hb;simp at h;unfold CQ;generalize y8 x.a=pa at e1 ⊢;generalize y8 x.b=pb at e2 ⊢
 cases pa<;>cases pb<;>simp only [if_true,Bool.false_eq_true,if_false] at e1 e2
 all_goals
  rcases Bool.eq_false_or_eq_true (allPlain x.roles) with hp|hp
  ·rw [hp,if_pos rfl] at h;rw [hp];clear hp;simp [af,qJ,e1,e2]
   repeat' (first | (split<;>(try simp only [gm,gq,gB,kD,kE])<;>(try simp [*])) | (simp only [gm,gq,gB,kD,kE]<;>(try simp [*]))|omega)
  ·rw [hp,if_neg (by simp)] at h;rw [hp];clear hp;simp [af,qJ,e1,e2]
   repeat' (first | (split<;>(try simp only [gm,gq,gB,kD,kE])<;>(try simp [*])) | (simp only [gm,gq,gB,kD,kE]<;>(try simp [*]))|omega)
mutual
def Bl:C→Bool
 | .mk k _ _ _ _ ps=>if k=4 then true else if k=5 then yt ps else false
def yt:List C→Bool
 | []=>false
 | p::r=>Bl p || yt r
end
theorem SN (c:C):Bl c=if c.kind=4 then true else if c.kind=5 then yt c.parts else false:=by cases c;simp only [Bl,C.KX,C.Fv];rfl
theorem Ov (s:St) (cx:Ctx) (z:Bool) (ps:List C) (hps:ps.length≤1152921504606846976)
  (ih:∀p∈ps,∀(s:St) (cx:Ctx),aj P0 (.fn (.func fO) [] []) [aJ p] s cx=.ret (.b (Bl p)) s):∀(rest:List C) (i:Nat),ps.drop i=rest→
  ∃j:Int,0≤j∧gU (aC P0.glob (aj P0) cx false bI) [0,1,7,8] [(0,.v (slf z (ps.map aJ))),(1,.v (.fn (.func fO) [] [])),(7,.v (.i .i64 ps.length)),(8,.v (.i .i64 i))] s=
   if yt rest=true then .ret [(4,.v (.i .i64 j))] s else .exit 0 [(0,.v (slf z (ps.map aJ))),(1,.v (.fn (.func fO) [] [])),(7,.v (.i .i64 ps.length)),(8,.v (.i .i64 j)),(9,.v (.b false))] s
 | [],i,h=>by
  have h1:¬i<ps.length:=Nat.not_lt.2 (drop_nil h);refine ⟨i,by omega,ak fun K hK=>?_⟩;simp [bI,h1,yt]
 | p::r,i,h=>by
  obtain ⟨h1,h2,h3,h4⟩:=drop_cons h;have h5:=h4 h3;have hp:p∈ps:=by rw [←h5];exact List.getElem_mem h3
  have hw:=wI (i:=i) (by omega);have e1:=ih p hp;rcases Bool.eq_false_or_eq_true (Bl p) with hb|hb
  ·refine ⟨i,by omega,ak fun K hK=>?_⟩;clear hK h4 ih;simp [bI,h3,h5,hw,e1,yt,hb]
  ·obtain ⟨j,hj,ih2⟩:=Ov s cx z ps hps ih r (i+1) h2;refine ⟨j,hj,ak fun K hK=>?_⟩;rw [←hK,show ((i+1:Nat):Int)=(i:Int)+1 from rfl] at ih2;clear hK h4 ih;simp [bI,h3,h5,hw,e1,yt,hb,ih2]
theorem EO:∀(c:C),C.Lng c→∀(s:St) (cx:Ctx),aj P0 (.fn (.func fO) [] []) [aJ c] s cx=.ret (.b (Bl c)) s:=by
 refine C.ind' fun c ih hw s cx=>?_;have hw':=hw;have ihp:∀p∈c.parts,∀(s:St) (cx:Ctx),aj P0 (.fn (.func fO) [] []) [aJ p] s cx=.ret (.b (Bl p)) s:=fun p hp=>ih p hp (hw.sub p hp)
 have hI:∀(s:St) (cx:Ctx),∃j:Int,aj P0 (.fn (.func cO) [] []) [slf c.z (c.parts.map aJ),.fn (.func fO) [] []] s cx=.ret (.i .i64 (if yt c.parts=true then j else -1)) s∧0≤j:=by
  intro s cx;obtain ⟨j,hj,h⟩:=Ov s ⟨cx.lim,s.length⟩ c.z c.parts (by have:=hw.ps;omega) ihp c.parts 0 rfl;refine ⟨j,rE (by simp) ?_,hj⟩;simp at h
  rcases Bool.eq_false_or_eq_true (yt c.parts) with hb|hb<;>simp [af,dU,h,hb]
 have hC:∀(s:St) (cx:Ctx),aj P0 (.fn (.func bQ) [] []) [slf c.z (c.parts.map aJ),.fn (.func fO) [] []] s cx=.ret (.b (yt c.parts)) s:=by
  intro s cx;obtain ⟨j,e1,hj⟩:=hI s ⟨cx.lim,s.length⟩;refine pY (by simp) ?_
  rcases Bool.eq_false_or_eq_true (yt c.parts) with hb|hb<;>simp [hb] at e1<;>simp [af,dJ,e1,hb,hj]
 refine Po (by simp) ?_;rw [SN];by_cases k4:c.kind=4
 ·rw [if_pos k4];simp [af,oO,kd k4]
 ·by_cases k5:c.kind=5
  ·rw [if_neg k4,if_pos k5];simp [af,oO,k4,kd k5,hC]
  ·rw [if_neg k4,if_neg k5];simp [af,oO,k4,k5]
def Un (k cl cr:Int) (bl br:Bool):Int:=
 if (kH k).l=true∧cl≠0 then cl else if (kH k).r=true∧cr≠0 then cr
 else if (k=2∧(bl=true∨br=true))∨((k=1∨k=4∨k=8)∧br=true) then 22 else 0
def iT (x:Ax):Int:=
 if oZ x=false then 22 else if CQ x (kH x.kind)=false then 20 else Un x.kind (ve x.left) (ve x.right) (Bl x.left) (Bl x.right)
structure Ax.Few (x:Ax):Prop where
 l:wC x.left≤150
 r:wC x.right≤150
 roles:x.roles.length≤600
 rs:∀r∈x.roles,r.length≤600
 role:x.role.length≤600
 a:x.a.length≤600
 b:x.b.length≤600
structure Ax.Mid (x:Ax):Prop where
 l:wC x.left≤100000
 r:wC x.right≤100000
 roles:x.roles.length≤600
 a:x.a.length≤600
 b:x.b.length≤600
theorem Ax.Few.mid {x:Ax} (h:x.Few):x.Mid:=⟨by have:=h.l;omega,by have:=h.r;omega,h.roles,h.a,h.b⟩
structure Ax.Lng (x:Ax):Prop where
 l:C.Lng x.left
 r:C.Lng x.right
 roles:x.roles.length≤1152921504606846976
 a:x.a.length≤1152921504606846976
 b:x.b.length≤1152921504606846976
theorem Ax.Mid.lng {x:Ax} (h:x.Mid):x.Lng:=⟨ahl _ h.l,ahl _ h.r,by have:=h.roles;omega,by have:=h.a;omega,by have:=h.b;omega⟩
theorem dk {x j:Int} (i:Int) (k:x=j):decide (x=i)=decide (j=i):=by subst k;rfl
set_option maxHeartbeats 2000000 in
theorem zV (x:Ax) (hx:x.Lng) (s:St) (cx:Ctx):aj P0 (.fn (.func jv) [] []) [cu x] s cx=.ret (.i .i64 (iT x)) s:=by
 refine H7 (by simp) ?_;unfold iT;rcases Bool.eq_false_or_eq_true (oZ x) with hs|hs
 ·have hk:1≤x.kind∧x.kind≤9:=by simp [oZ,CU] at hs;omega
  have b1:0≤x.kind:=by omega
  have b2:x.kind.toNat<10:=by omega
  have b3:7≤70 - x.kind.toNat * 7:=by omega
  have hu:=aaf (k:=x.kind) (by omega) (by omega);have e1:=Pz x (kH x.kind) (by have:=hx.roles;omega) (by have:=hx.a;omega) (by have:=hx.b;omega);have e2:=yG x.left hx.l;have e3:=yG x.right hx.r;have e4:=EO x.left hx.l;have e5:=EO x.right hx.r;have hk9:x.kind=1∨x.kind=2∨x.kind=3∨x.kind=4∨x.kind=5∨x.kind=6∨x.kind=7∨x.kind=8∨x.kind=9:=by omega
  rw [hs,if_neg (by simp)];rcases Bool.eq_false_or_eq_true (CQ x (kH x.kind)) with hn|hn
  ·rw [hn] at e1;rw [hn,if_neg (by simp)];clear hn;generalize hL:ve x.left=cl at e2 ⊢;generalize hR:ve x.right=cr at e3 ⊢;generalize Bl x.left=bl at e4 ⊢;generalize Bl x.right=br at e5 ⊢;clear hL hR hx hk;rcases hk9 with k|k|k|k|k|k|k|k|k
   all_goals
    have d1:=dk 1 k;have d2:=dk 2 k;have d4:=dk 4 k;have d8:=dk 8 k;have kt:=congrArg (fun i=>Un i cl cr bl br) k;rw [kt];have ku:=congrArg kH k;rw [ku] at hu e1;clear ku k kt;simp [kH] at hu;simp [kH,ZI] at e1;simp [Un,kH];simp [af,lu,hs,b1,b2,b3,Nu,Qd,hu,e1,e2,e3,e4,e5,d1,d2,d4,d8]
    repeat' (first | (split<;>(try simp only [gm,gq,gB,kD,kE])<;>(try simp [*])) | (simp only [gm,gq,gB,kD,kE]<;>(try simp [*]))|omega)
  ·rw [hn] at e1;rw [hn,if_pos rfl];generalize kH x.kind=u at hu e1;simp [af,lu,hs,b1,b2,b3,Nu,Qd,hu,e1]
 ·rw [hs,if_pos rfl];simp [af,lu,hs]
theorem Io (x:Ax) (hx:x.Mid) (s:St) (cx:Ctx):aj P0 (.fn (.func jv) [] []) [cu x] s cx=.ret (.i .i64 (iT x)) s:=zV x hx.lng s cx
theorem Bj (x:Ax) (hx:x.Few) (s:St) (cx:Ctx):aj P0 (.fn (.func jv) [] []) [cu x] s cx=.ret (.i .i64 (iT x)) s:=Io x hx.mid s cx
end Go.Ai.Z
namespace Go.Ai.Z
attribute [local simp] List.length_pos_iff
end Go.Ai.Z
namespace Go.Ai.Z
structure Ax.Ok (x:Ax):Prop where
 l:x.left.Ok
 r:x.right.Ok
 roles:x.roles.length≤1125899906842624
 rs:∀r∈x.roles,r.length≤1125899906842624
 role:x.role.length≤1125899906842624
 a:x.a.length≤1125899906842624
 b:x.b.length≤1125899906842624
theorem Dy (z:Bool) (roles:List Rl) (cs:List AV) (hcs:cs[12]?=some (slf z (roles.map .s))) (hb:∀r∈roles,r.length≤1125899906842624):
  ∀(rest:List Rl) (i n:Nat),roles.drop i=rest→n≤20 * 1125899906842624+i * 1125899906842624→i≤100→
  ∃(v:Nat) (j:Int),(∀s cx,gU (aC P0.glob (aj P0) cx false mF) [1,3,4] [(1,.bx cs),(3,.v (.i .i64 n)),(4,.v (.i .i64 i))] s=
    .exit 0 [(1,.bx cs),(3,.v (.i .i64 v)),(4,.v (.i .i64 j)),(29,.v (.b false))] s)∧n≤v∧(roles.length≤100→∀r∈rest,r.length≤v)
 | [],i,n,h,hn,hi=>by
  have h1:¬i<roles.length:=Nat.not_lt.2 (drop_nil h);refine ⟨n,i,fun s cx=>ak fun K hK=>?_,Nat.le_refl _,fun _ r hr=>by cases hr⟩;simp [mF,hcs,h1]
 | p::r,i,n,h,hn,hi=>by
  obtain ⟨h1,h2,h3,h4⟩:=drop_cons h;have h5:=h4 h3;have hp:p∈roles:=by rw [←h5];exact List.getElem_mem h3
  have hbp:=hb p hp;have hw:=wI (i:=i) (by omega);by_cases hi':i<100
  ·obtain ⟨v,j,ih,q1,q2⟩:=Dy z roles cs hcs hb r (i+1) (n+p.length) h2 (by omega) (by omega);refine ⟨v,j,fun s cx=>ak fun K hK=>?_,by omega,fun hl y hy=>?_⟩
   ·have ih:=ih s cx;rw [←hK,show ((i+1:Nat):Int)=(i:Int)+1 from rfl] at ih;clear hK h4;have w3:IntKind.i64.wrap ((n:Int)+p.length)=(n:Int)+p.length:=w64 (by omega) (by omega);have c1:((i:Int)<100):=by omega
    simp at ih;simp [mF,hcs,h3,h5,hw,w3,c1,ih]
   ·rcases List.mem_cons.1 hy with rfl|hy
    ·omega
    ·exact q2 hl y hy
  ·have c1:¬((i:Int)<100):=by omega
   refine ⟨n,i,fun s cx=>ak fun K hK=>?_,Nat.le_refl _,fun hl=>by omega⟩;simp [mF,hcs,h3,c1]
theorem NE (x:Ax) (hx:x.Ok):∃b:Bool,(∀s cx,aj P0 (.fn (.func qY) [] []) [cu x] s cx=.ret (.b b) s)∧(b=true→x.Few):=by
 obtain ⟨ol,or,o1,o2,o3,o4,o5⟩:=hx;obtain ⟨bl,el,hbl⟩:=OL x.left ol;obtain ⟨br,er,hbr⟩:=OL x.right or;obtain ⟨v,j,h,q1,q2⟩:=Dy x.z x.roles (cellsA x) rfl o2 x.roles 0 (x.role.length+x.a.length+x.b.length+10 * x.roles.length) rfl (by omega) (by omega);refine ⟨decide (v≤600) && bl && br,fun s cx=>Lj (by simp) ?_,fun hb=>?_⟩
 ·have h:=h s ⟨s.length,s.length⟩;have w1:IntKind.i64.wrap ((x.role.length:Int)+x.a.length)=(x.role.length:Int)+x.a.length:=w64 (by omega) (by omega);have w2:IntKind.i64.wrap ((x.role.length:Int)+x.a.length+x.b.length)=(x.role.length:Int)+x.a.length+x.b.length:=w64 (by omega) (by omega);have w3:IntKind.i64.wrap (10 * (x.roles.length:Int))=10 * (x.roles.length:Int):=w64 (by omega) (by omega);have w4:IntKind.i64.wrap ((x.role.length:Int)+x.a.length+x.b.length+10 * x.roles.length)=(x.role.length:Int)+x.a.length+x.b.length+10 * x.roles.length:=w64 (by omega) (by omega);have c1:((v:Int)≤600)=(v≤600):=by simp;omega
  simp [cellsA] at h
  by_cases hv:v≤600<;>cases bl<;>cases br<;>simp [af,uw,w1,w2,w3,w4,h,el,er,c1,hv]
 ·simp only [Bool.and_eq_true,decide_eq_true_eq] at hb;obtain ⟨⟨hv,h1⟩,h2⟩:=hb;exact ⟨hbl h1,hbr h2,by omega,fun r hr=>by have:=q2 (by omega) r hr;omega,by omega,by omega,by omega⟩
theorem BP (z:Bool) (l:List Ax) (hl:l.length≤1000) (hx:∀x∈l,x.Ok):
  ∀(rest:List Ax) (i:Nat),l.drop i=rest→
  ∃(b:Bool) (j:Int),(∀s cx,gU (aC P0.glob (aj P0) cx false lK) [0,5] [(0,.v (slf z (l.map cu))),(5,.v (.i .i64 i))] s=
    if b=true then .exit 0 [(0,.v (slf z (l.map cu))),(5,.v (.i .i64 j)),(13,.v (.b false))] s else .ret [(4,.v (.b false))] s)∧(b=true→∀x∈rest,x.Few)
 | [],i,h=>by
  have h1:¬i<l.length:=Nat.not_lt.2 (drop_nil h);refine ⟨true,i,fun s cx=>ak fun K hK=>?_,fun _ r hr=>by cases hr⟩;simp [lK,h1]
 | p::r,i,h=>by
  obtain ⟨h1,h2,h3,h4⟩:=drop_cons h;have h5:=h4 h3;have hp:p∈l:=by rw [←h5];exact List.getElem_mem h3
  have hw:=wI (i:=i) (by omega);obtain ⟨b1,e1,f1⟩:=NE p (hx p hp)
  cases b1 with
  | false=>
   refine ⟨false,i,fun s cx=>ak fun K hK=>?_,fun h=>by cases h⟩;clear h4;simp [lK,h3,h5,hw,e1]
  | true=>
   obtain ⟨b,j,ih,q⟩:=BP z l hl hx r (i+1) h2;refine ⟨b,j,fun s cx=>ak fun K hK=>?_,fun hb y hy=>?_⟩
   ·have ih:=ih s cx;rw [←hK,show ((i+1:Nat):Int)=(i:Int)+1 from rfl] at ih;clear hK h4;simp [lK,h3,h5,hw,e1,ih]
   ·rcases List.mem_cons.1 hy with rfl|hy
    ·exact f1 rfl
    ·exact q hb y hy
theorem JV (m:Nat) (hm:m≤1000) (z:Bool) (l:List Ax) (hl:l.length≤1125899906842624) (hx:∀x∈l,x.Ok):∃b:Bool,(∀s cx,aj P0 (.fn (.func pJ) [] []) [slf z (l.map cu),.i .i64 m] s cx=.ret (.b b) s)∧(b=true→l.length≤m∧∀x∈l,x.Few):=by
 by_cases h:l.length≤m
 ·have c1:¬((m:Int)<l.length):=by omega
  obtain ⟨b,j,e,q⟩:=BP z l (by omega) hx l 0 rfl;refine ⟨b,fun s cx=>Ba (by simp) ?_,fun hb=>⟨h,q hb⟩⟩;simp at e
  cases b<;>simp [af,oz,c1,h,e]
 ·have c1:(m:Int)<l.length:=by omega
  refine ⟨false,fun s cx=>Ba (by simp) ?_,fun h=>by cases h⟩;have c2:m<l.length:=by omega
  simp [af,oz,c1,c2]
end Go.Ai.Z
